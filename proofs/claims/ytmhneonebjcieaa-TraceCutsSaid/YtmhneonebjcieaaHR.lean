/- The walk of Holes of the document. -/
import Derived.Test.YtmhneonebjcieaaHO
import Derived.Test.YtmhneonebjcieaaFG
import Derived.Deep.Cut
namespace Go.Proofs.Ytmhneonebjcieaa
open Go.RowKit

theorem ranged_any (x y : Int) (w : World) : Calls Try.prog 55 #[.int .i64 x, .int .i64 y] w fun e w' => e = .returned (.int .i64 (if within x 0 32768 && (within y 0 32768 && decide (x ≤ y)) then 0 else 1)) ∧ w = w' := by
  cases hx : within x 0 32768
  · have HX := Lib.hid (rwithin_is hx)
    clear hx
    go_enter Try.func55, Try.ntmps55
    go_wp2_with fail
    refine (HX.out _).mono ?_; rintro e w1 ⟨rfl, rfl⟩
    go_wp2_with fail
    go_ret
    exact ⟨rfl, rfl⟩
  have HX := Lib.hid (rwithin_is hx)
  clear hx
  cases hy : within y 0 32768
  · have HY := Lib.hid (rwithin_is hy)
    clear hy
    go_enter Try.func55, Try.ntmps55
    go_wp2_with fail
    refine (HX.out _).mono ?_; rintro e w1 ⟨rfl, rfl⟩
    go_wp2_with fail
    refine (HY.out _).mono ?_; rintro e w1 ⟨rfl, rfl⟩
    go_wp2_with fail
    go_ret
    exact ⟨rfl, rfl⟩
  have HY := Lib.hid (rwithin_is hy)
  clear hy
  by_cases hxy : y < x
  · have he : decide (x ≤ y) = false := decide_eq_false (by omega)
    rw [he]
    clear he
    go_enter Try.func55, Try.ntmps55
    go_wp2_with fail
    refine (HX.out _).mono ?_; rintro e w1 ⟨rfl, rfl⟩
    go_wp2_with fail
    refine (HY.out _).mono ?_; rintro e w1 ⟨rfl, rfl⟩
    go_wp2_with fail
    go_ret
    exact ⟨rfl, rfl⟩
  · have he : decide (x ≤ y) = true := decide_eq_true (by omega)
    rw [he]
    clear he
    go_enter Try.func55, Try.ntmps55
    go_wp2_with fail
    refine (HX.out _).mono ?_; rintro e w1 ⟨rfl, rfl⟩
    go_wp2_with fail
    refine (HY.out _).mono ?_; rintro e w1 ⟨rfl, rfl⟩
    go_wp2_with fail
    go_ret
    exact ⟨rfl, rfl⟩
theorem ranged_is {x y : Int} {b : Bool} (h : (within x 0 32768 && (within y 0 32768 && decide (x ≤ y))) = b) (w : World) : Calls Try.prog 55 #[.int .i64 x, .int .i64 y] w fun e w' => e = .returned (.int .i64 (if b then 0 else 1)) ∧ w = w' := by
  have := ranged_any x y w
  rwa [h] at this
set_option maxRecDepth 100000 in
set_option maxHeartbeats 4000000 in
theorem rHoles_any (l : List Pl) (a : Option Addr) (cap : Nat) (v x y : Int) (w : World) (hin : PlsIn w a l) (hl : l.length ≤ 1000) :
    Calls Try.prog 32 #[.slice a l.length cap, .int .i64 v, .int .i64 x, .int .i64 y] w fun e w' => (∃ u, e = .returned (.tuple #[u, .int .i64 (askedE l v [x, y])]) ∧ HolPost l v x y w.heap.size u w') ∧ Below w.heap.size w w' := by
  have HI := Lib.hid hin
  have HV := Lib.hid (rValid_any l a cap w hin hl)
  have HNil : Hid (askedE l v [x, y] ≠ 0 → ∀ w', HolPost l v x y w.heap.size (.slice none 0 0) w') := Lib.hid fun h w' => by unfold HolPost; rw [if_neg h]
  have HPost : Hid (askedE l v [x, y] = 0 → ∀ u w', w'.ownsRow w.heap.size 48 2 u (holesK l v x (y - x).toNat).length (encH (holesK l v x (y - x).toNat)) → HolPost l v x y w.heap.size u w') := Lib.hid fun h v w' ho => by unfold HolPost; rw [if_pos h]; exact ho
  clear hin
  by_cases hE : valE l = 0
  rotate_left
  · have hA : askedE l v [x, y] = valE l := by unfold askedE; rw [if_pos hE]
    have HD := Lib.hid (HNil.out (by rw [hA]; exact hE))
    rw [hA]
    have hne : (valE l != 0) = true := bne_iff_ne.2 hE
    generalize valE l = E at *
    clear hE hA
    go_enter Try.func32, Try.ntmps32
    go_wp2_with fail
    refine HV.out.mono ?_; rintro e w1 ⟨rfl, hb1⟩
    have HB1 := Lib.hid hb1
    clear hb1
    go_wp2_with fail
    go_ret2
    exact ⟨⟨_, rfl, HD.out _⟩, HB1.out⟩
  have hA := asked_two (v := v) (x := x) (y := y) hE
  have HTab := Lib.hid (fun h => @asked_two_ok l v x y h)
  rw [hE] at HV
  cases hv : within v 0 63
  · rw [hv] at hA
    have hA : askedE l v [x, y] = 1 := hA
    have HD := Lib.hid (HNil.out (by rw [hA]; decide))
    rw [hA]
    have HC := Lib.hid (rwithin_is hv)
    clear hE hA hv HTab
    go_enter Try.func32, Try.ntmps32
    go_wp2_with fail
    refine HV.out.mono ?_; rintro e w1 ⟨rfl, hb1⟩
    have HB1 := Lib.hid hb1
    clear hb1
    go_wp2_with fail
    refine (HC.out _).mono ?_; rintro e w2 ⟨rfl, rfl⟩
    go_wp2_with fail
    go_ret2
    exact ⟨⟨_, rfl, HD.out _⟩, HB1.out⟩
  cases hr : (within x 0 32768 && (within y 0 32768 && decide (x ≤ y)))
  · rw [hv, hr] at hA
    have hA : askedE l v [x, y] = 1 := hA
    have HD := Lib.hid (HNil.out (by rw [hA]; decide))
    rw [hA]
    have HC := Lib.hid (rwithin_is hv); have HC2 := Lib.hid (ranged_is hr)
    clear hE hA hv hr HTab
    go_enter Try.func32, Try.ntmps32
    go_wp2_with fail
    refine HV.out.mono ?_; rintro e w1 ⟨rfl, hb1⟩
    have HB1 := Lib.hid hb1
    clear hb1
    go_wp2_with fail
    refine (HC.out _).mono ?_; rintro e w2 ⟨rfl, rfl⟩
    go_wp2_with fail
    refine (HC2.out _).mono ?_; rintro e w2 ⟨rfl, rfl⟩
    go_wp2_with fail
    go_ret2
    exact ⟨⟨_, rfl, HD.out _⟩, HB1.out⟩
  rw [hv, hr] at hA
  have hA : askedE l v [x, y] = 0 := hA
  obtain ⟨ht, hv0, hv1, hx0, hxy, hy1⟩ := HTab.out hA
  have HPost := Lib.hid (fun (_ : True) => HPost.out hA)
  rw [hA]
  have HC := Lib.hid (rwithin_is hv); have HC2 := Lib.hid (ranged_is hr)
  have HF := Lib.hid (fun (ad : Int) (w' : World) (hb : Below w.heap.size w w') => rfind_any l a cap v ad w' (HI.out.below hb) hl)
  clear hE hA hv hr HNil HTab ht
  obtain ⟨i0, hi, ip0, ip1, ip2⟩ := info_parts Try.infoStr
  go_enter Try.func32, Try.ntmps32
  go_wp2_with fail
  refine HV.out.mono ?_; rintro e w1 ⟨rfl, hb1⟩
  have HB1 := Lib.hid hb1
  clear hb1
  go_wp2_with fail
  refine (HC.out _).mono ?_; rintro e w2 ⟨rfl, rfl⟩
  go_wp2_with fail
  refine (HC2.out _).mono ?_; rintro e w2 ⟨rfl, rfl⟩
  go_wp2_with fail
  go_loopw [11, 12, 13] (fun u o i wr => ∃ k : Nat, k ≤ (y - x).toNat ∧ i = .int .i64 (x + k) ∧ o = .bool (openK l v x k) ∧ wr.ownsRow w.heap.size 48 2 u (holesK l v x k).length (encH (holesK l v x k)) ∧ Below w.heap.size w wr) (fun _ _ i _ => (y - x).toNat - (intOf i - x).toNat)
  case atStart => exact ⟨0, Nat.zero_le _, by simp, rfl, ⟨rfl, .inl ⟨rfl, rfl⟩⟩, HB1.out⟩
  case round =>
    obtain ⟨k, hk, rfl, rfl, ho, hb⟩ := hrel
    have hhl := holesK_len l v x k
    obtain ⟨va, vc, rfl⟩ := owns_shape ho
    by_cases hlt : k < (y - x).toNat
    · have hxi : x + (k : Int) < y := by omega
      have hx1 : 0 ≤ x + (k : Int) := by omega
      have hx2 : x + (k : Int) ≤ 32768 := by omega
      have HC := Lib.hid (HF.out (x + k) wr hb)
      have hop := holes_open l v x k
      have HSt : Hid (holesK l v x (k + 1) = if isFound l v (x + k) then holesK l v x k else if decide (0 < (holesK l v x k).length) && decide ((lastH (holesK l v x k)).2 = x + k) then setLast (holesK l v x k) (x + k + 1) else holesK l v x k ++ [(x + k, x + k + 1)]) := Lib.hid rfl
      have HOp : Hid (openK l v x (k + 1) = !isFound l v (x + k)) := Lib.hid rfl
      have HO := Lib.hid ho; have HB := Lib.hid hb; have HOq := Lib.hid hop
      clear ho hb hop
      generalize holesK l v x k = out at *
      generalize openK l v x k = ok at *
      generalize foundP l v (x + k) = p at *
      obtain ⟨p0, p1, p2, p3, p4⟩ := p
      have HNm : Hid (∀ i : Int, i = x + ((k + 1 : Nat) : Int) → Value.int .i64 i = .int .i64 (x + ((k + 1 : Nat) : Int))) := Lib.hid fun i h => by rw [h]
      cases hf : isFound l v (x + k)
      rotate_left
      · rw [hf] at HC HSt HOp
        clear hf
        go_wp2_with fail
        refine HC.out.mono ?_; rintro e w2 ⟨rfl, hb2⟩
        have HB2 := Lib.hid ((HB.out.trans (hb2.mono HB.out.size)).alloc (Nat.le_trans HB.out.size hb2.size) (.cells #[.int .i64 p0, .int .i64 p1, .int .i64 p2, .int .i64 p3, .int .i64 p4] 38))
        have HO2 := Lib.hid ((owns_below HO.out hb2).alloc (.cells #[.int .i64 p0, .int .i64 p1, .int .i64 p2, .int .i64 p3, .int .i64 p4] 38))
        clear hb2
        go_wp2_with fail
        go_roundw
        case rel => exact ⟨k + 1, by omega, HNm.out _ (by omega), by rw [HOp.out]; rfl, by rw [HSt.out]; exact HO2.out, HB2.out⟩
        case measure => simp [intOf]; omega
      rw [hf] at HC HSt HOp
      clear hf
      by_cases hjoin : 0 < out.length ∧ (lastH out).2 = x + k
      · obtain ⟨h0, hl2⟩ := hjoin
        have HStj : Hid (holesK l v x (k + 1) = setLast out (x + k + 1)) := Lib.hid (by rw [HSt.out]; simp [h0, hl2])
        have hok : ok = true := by rw [← HOq.out]; simp [h0, hl2]
        obtain ⟨n, hn⟩ : ∃ n, out.length = n + 1 := ⟨out.length - 1, by omega⟩
        have HHn := Lib.hid hn
        have hnl : n ≤ 40000 := by omega
        have hlast : atH out n = lastH out := by unfold lastH; rw [hn]; rfl
        obtain ⟨g, gc, he, hgb, hgs, _, hpy, hfz⟩ := owns_row2 HO.out (k := n) (by omega)
        simp only [Value.slice.injEq] at he
        obtain ⟨rfl, he1, rfl⟩ := he
        clear he1
        rw [hlast, hl2] at hpy
        have HPy := Lib.hid hpy; have HFz := Lib.hid (hfz (n * 2 + 1))
        subst hok
        rw [hn] at HO ⊢
        clear hpy hfz hl2 hlast h0 hn
        go_wp2_with fail
        refine HC.out.mono ?_; rintro e w2 ⟨rfl, hb2⟩
        have HB2 := Lib.hid ((HB.out.trans (hb2.mono HB.out.size)).alloc (Nat.le_trans HB.out.size hb2.size) (.cells #[.int .i64 p0, .int .i64 p1, .int .i64 p2, .int .i64 p3, .int .i64 p4] 38))
        have HO2 := Lib.hid ((owns_below HO.out hb2).alloc (.cells #[.int .i64 p0, .int .i64 p1, .int .i64 p2, .int .i64 p3, .int .i64 p4] 38))
        have hal := hb2.alloc hb2.size (.cells #[.int .i64 p0, .int .i64 p1, .int .i64 p2, .int .i64 p3, .int .i64 p4] 38)
        have hcy := keep HPy.out hal
        have hfy : (w2.alloc (.cells #[.int .i64 p0, .int .i64 p1, .int .i64 p2, .int .i64 p3, .int .i64 p4] 38)).frozen? ⟨g, n * 2 + 1, none⟩ = false := by rw [World.frozen?_of_block (w := wr) (hal.block g hgs)]; exact HFz.out
        have hn1 : (0 : Int) < (n : Int) + 1 := by omega
        have hnb : (n : Int) < (n : Int) + 1 := by omega
        have hn0 : (0 : Int) ≤ (n : Int) := by omega
        have hw1 : IntKind.i64.wrap ((n : Int) + 1 - 1) = (n : Int) := by rw [Int.add_sub_cancel]; exact IntWalk.i64_in _ (by omega)
        have hw2 : IntKind.i64.wrap (n : Int) = (n : Int) := IntWalk.i64_in _ (by omega)
        have hw3 : IntKind.i64.wrap (x + (k : Int) + 1) = x + (k : Int) + 1 := IntWalk.i64_in _ (by omega)
        clear hb2 hal
        go_upto_region 13 with (fail)
        generalize w2.alloc (.cells #[.int .i64 p0, .int .i64 p1, .int .i64 p2, .int .i64 p3, .int .i64 p4] 38) = w3 at *
        have HO3 : Hid ((w3.setCell ⟨g, n * 2 + 1, none⟩ (.int .i64 (x + k + 1))).ownsRow w.heap.size 48 2 (.slice (some ⟨g, 0, none⟩) (n + 1) vc) (n + 1) (encH (setLast out (x + k + 1)))) := Lib.hid (owns_last HO2.out HHn.out (by omega) (x + k + 1))
        have HB3 := Lib.hid (HB2.out.trans (below_setCell w3 (k := n * 2 + 1) hgb (.int .i64 (x + k + 1))))
        have HLen : Hid ((setLast out (x + k + 1)).length = n + 1) := Lib.hid ((setLast_len out _).trans HHn.out)
        go_wp2_with fail
        go_roundw
        case rel => exact ⟨k + 1, by omega, HNm.out _ (by omega), by rw [HOp.out]; rfl, by rw [HStj.out, HLen.out]; exact HO3.out, HB3.out⟩
        case measure => simp [intOf]; omega
      · have HSta : Hid (holesK l v x (k + 1) = out ++ [(x + k, x + k + 1)]) := Lib.hid (by
          rw [HSt.out, if_neg (by decide), if_neg]
          rw [Bool.and_eq_true, decide_eq_true_iff, decide_eq_true_iff]; exact hjoin)
        have hok : ok = false := by
          rw [← HOq.out]
          cases h : (decide (0 < out.length) && decide ((lastH out).2 = x + k))
          · rfl
          · rw [Bool.and_eq_true, decide_eq_true_iff, decide_eq_true_iff] at h; exact absurd h hjoin
        subst hok
        have HS63 : Hid (out.length + 1 ≤ maxLen) := Lib.hid (by unfold maxLen; omega)
        have HSb : Hid ((out.length + 1) * 16 ≤ 140737488355328) := Lib.hid (by omega)
        have hw3 : IntKind.i64.wrap (x + (k : Int) + 1) = x + (k : Int) + 1 := IntWalk.i64_in _ (by omega)
        go_wp2_with fail
        refine HC.out.mono ?_; rintro e w2 ⟨rfl, hb2⟩
        have HB2 := Lib.hid ((HB.out.trans (hb2.mono HB.out.size)).alloc (Nat.le_trans HB.out.size hb2.size) (.cells #[.int .i64 p0, .int .i64 p1, .int .i64 p2, .int .i64 p3, .int .i64 p4] 38))
        have HO2 := Lib.hid ((owns_below HO.out hb2).alloc (.cells #[.int .i64 p0, .int .i64 p1, .int .i64 p2, .int .i64 p3, .int .i64 p4] 38))
        clear hb2 hjoin
        go_upto_region 15 with (fail)
        generalize w2.alloc (.cells #[.int .i64 p0, .int .i64 p1, .int .i64 p2, .int .i64 p3, .int .i64 p4] 38) = w3 at *
        have HB3 := Lib.hid (HB2.out.alloc HB2.out.size (.cells #[.int .i64 (x + k), .int .i64 (x + k + 1)] 48))
        have HO3 := Lib.hid (HO2.out.alloc (.cells #[.int .i64 (x + k), .int .i64 (x + k + 1)] 48))
        have HZ3 := Lib.hid HB3.out.size
        have HNew := Lib.hid (pair_new w3 (x + k) (x + k + 1) 48)
        go_wp2_with (at_builtin; refine wpList_append_own_at _ rfl _ _ 49 rfl w.heap.size 48 i0 (.agg #[.int .i64 0, .int .i64 0]) 2 16 Try.underlying49 hi ip0 ip1 ip2 rfl (by decide) _ _ _ rfl HO3.out ⟨w3.heap.size, 0, none⟩ 1 1 [.int .i64 (x + k), .int .i64 (x + k + 1)] rfl rfl HNew.out (two_one _ _) HS63.out HSb.out HZ3.out ?_; intro v9 w9 hown9 hgrow9 _ hat9; have HB9 := Lib.hid (HB3.out.grown hgrow9 HZ3.out (fun g hg => (owns_block HO3.out hg).1)); have HO9 := Lib.hid hown9; clear hown9 hgrow9 hat9)
        go_roundw
        case rel => exact ⟨k + 1, by omega, HNm.out _ (by omega), by rw [HOp.out]; rfl, by rw [HSta.out, List.length_append, encH_snoc]; exact HO9.out, HB9.out⟩
        case measure => simp [intOf]; omega
    · obtain rfl : k = (y - x).toNat := by omega
      have hxi : ¬ x + ((y - x).toNat : Int) < y := by omega
      have HP := Lib.hid (HPost.out trivial _ _ ho); have HB := Lib.hid hb
      clear ho hb
      go_wp2_with fail
      go_ret2
      exact ⟨⟨_, rfl, HP.out⟩, HB.out⟩
end Go.Proofs.Ytmhneonebjcieaa
