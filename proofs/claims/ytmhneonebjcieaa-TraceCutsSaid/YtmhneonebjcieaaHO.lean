/- The walk of Holes of the program. -/
import Derived.Test.YtmhneonebjcieaaHS
import Derived.Test.YtmhneonebjcieaaFR
import Derived.Test.YtmhneonebjcieaaSH
import Derived.Outline
import Derived.Deep.Cut
import Derived.StillTailTactics
namespace Go.Proofs.Ytmhneonebjcieaa
open Go.RowKit

def lastH (l : StrL) : Int × Int := atH l (l.length - 1)
def setLast (l : StrL) (y : Int) : StrL := l.set (l.length - 1) ((lastH l).1, y)
/-- The stretches without a place, after k addresses. -/
def holesK (l : List Pl) (v x : Int) : Nat → StrL
  | 0 => []
  | k + 1 => if isFound l v (x + k) then holesK l v x k else if decide (0 < (holesK l v x k).length) && decide ((lastH (holesK l v x k)).2 = x + k) then setLast (holesK l v x k) (x + k + 1) else holesK l v x k ++ [(x + k, x + k + 1)]
def openK (l : List Pl) (v x : Int) : Nat → Bool
  | 0 => false
  | k + 1 => !isFound l v (x + k)
theorem setLast_len (l : StrL) (y : Int) : (setLast l y).length = l.length := by simp [setLast]
theorem last_set {l : StrL} (h : 0 < l.length) (y : Int) : lastH (setLast l y) = ((lastH l).1, y) := by
  show (setLast l y).getD ((setLast l y).length - 1) (0, 0) = _
  rw [setLast_len]
  unfold setLast
  rw [List.getD_eq_getElem?_getD, List.getElem?_set_self (by omega)]; rfl
theorem last_snoc (l : StrL) (p : Int × Int) : lastH (l ++ [p]) = p := by
  unfold lastH atH
  rw [List.getD_eq_getElem?_getD, List.getElem?_append_right (by simp)]
  simp
theorem holesK_len (l : List Pl) (v x : Int) : ∀ k, (holesK l v x k).length ≤ k
  | 0 => Nat.le_refl _
  | k + 1 => by
    have := holesK_len l v x k
    unfold holesK
    split
    · omega
    · split
      · rw [setLast_len]; omega
      · simp; omega
theorem holesK_last (l : List Pl) (v x : Int) : ∀ k, 0 < (holesK l v x k).length → (lastH (holesK l v x k)).2 ≤ x + k
  | 0, h => absurd h (Nat.not_lt_zero _)
  | k + 1, h => by
    have ih := holesK_last l v x k
    unfold holesK at h ⊢
    split at h <;> rename_i h1
    · rw [if_pos h1]; have := ih h; omega
    · rw [if_neg h1]
      split at h <;> rename_i h2
      · rw [if_pos h2, last_set (by rw [setLast_len] at h; exact h)]; show x + k + 1 ≤ _; omega
      · rw [if_neg h2, last_snoc]; show x + k + 1 ≤ _; omega
theorem holes_open (l : List Pl) (v x : Int) : ∀ k, (decide (0 < (holesK l v x k).length) && decide ((lastH (holesK l v x k)).2 = x + k)) = openK l v x k
  | 0 => rfl
  | k + 1 => by
    have hl := holesK_last l v x k
    cases h : isFound l v (x + k)
    · have ho : openK l v x (k + 1) = true := by show (!isFound l v (x + k)) = true; rw [h]; rfl
      rw [ho]
      unfold holesK
      rw [h, if_neg (by decide)]
      split <;> rename_i h2
      · rw [Bool.and_eq_true, decide_eq_true_iff, decide_eq_true_iff] at h2
        rw [last_set h2.1, setLast_len, decide_eq_true h2.1, Bool.true_and, decide_eq_true_iff]
        show x + k + 1 = _; omega
      · rw [last_snoc, decide_eq_true (by simp), Bool.true_and, decide_eq_true_iff]
        show x + k + 1 = _; omega
    · have ho : openK l v x (k + 1) = false := by show (!isFound l v (x + k)) = false; rw [h]; rfl
      rw [ho]
      unfold holesK
      rw [h, if_pos rfl]
      by_cases h0 : 0 < (holesK l v x k).length
      · have := hl h0
        rw [decide_eq_true h0, Bool.true_and, decide_eq_false_iff_not]
        omega
      · rw [decide_eq_false h0]; rfl
/-- What Holes tells. -/
def HolPost (l : List Pl) (v x y : Int) (B : Nat) (u : Value) (w' : World) : Prop :=
  if askedE l v [x, y] = 0 then w'.ownsRow B 48 2 u (holesK l v x (y - x).toNat).length (encH (holesK l v x (y - x).toNat)) else u = .slice none 0 0
theorem asked_two {l : List Pl} {v x y : Int} (hE : valE l = 0) : askedE l v [x, y] = if within v 0 63 && (within x 0 32768 && (within y 0 32768 && decide (x ≤ y))) then 0 else 1 := by
  unfold askedE
  rw [if_neg (by simp [hE])]
  have h1 : sortedI [x, y] = decide (x ≤ y) := by
    unfold sortedI
    rw [decide_eq_decide]
    constructor
    · intro h; exact h 0 (by simp)
    · intro h j hj
      have hj : j < 1 := hj
      obtain rfl : j = 0 := by omega
      exact h
  rw [h1]
  simp [okAd, Bool.and_assoc]
theorem asked_two_ok {l : List Pl} {v x y : Int} (h : askedE l v [x, y] = 0) : Table l ∧ 0 ≤ v ∧ v ≤ 63 ∧ 0 ≤ x ∧ x ≤ y ∧ y ≤ 32768 := by
  have hE : valE l = 0 := by
    by_cases hE : valE l = 0
    · exact hE
    · unfold askedE at h; rw [if_pos hE] at h; exact h
  rw [asked_two hE] at h
  split at h
  · rename_i hc
    unfold within at hc
    simp only [Bool.and_eq_true, decide_eq_true_iff] at hc
    exact ⟨valE_zero.1 hE, hc.1.1, hc.1.2, hc.2.1.1, hc.2.2.2, hc.2.2.1.2⟩
  · exact absurd h (by decide)
theorem ints_two_new (w : World) (x y : Int) : IntsIn (w.alloc (.cells #[.int .i64 x, .int .i64 y] 3)) (some ⟨w.heap.size, 0, none⟩) [x, y] := fun k hk => by
  have hk : k < 2 := hk
  have : k = 0 ∨ k = 1 := by omega
  rcases this with rfl | rfl <;> exact ⟨_, _, rfl, by simp [go_sem]⟩
theorem Try.infoStr : (Try.prog.info? 48).map (fun i => (i.zero, i.size, i.bytes)) = some (some (.agg #[.int .i64 0, .int .i64 0]), 2, 16) := by kernel_rfl
theorem two_one (a b : Int) : ∀ u ∈ [Value.int .i64 a, Value.int .i64 b], u.oneCell' = true := by simp [Value.oneCell']
theorem pair_new (w : World) (a b : Int) (T : TypeId) : ∀ j u, [Value.int .i64 a, Value.int .i64 b][j]? = some u → (w.alloc (.cells #[.int .i64 a, .int .i64 b] T)).cell? ((⟨w.heap.size, 0, none⟩ : Addr).add j) = some u := by
  intro j u hu
  have hadd : (⟨w.heap.size, 0, none⟩ : Addr).add j = ⟨w.heap.size, j, none⟩ := by unfold Addr.add; split <;> simp_all
  rw [hadd, World.cell?_alloc_at _ _ _ _ rfl]
  match j, hu with
  | 0, hu => simpa using hu
  | 1, hu => simpa using hu
theorem owns_last {w : World} {B g n c : Nat} {e : TypeId} {l : StrL} (h : w.ownsRow B e 2 (.slice (some ⟨g, 0, none⟩) n c) n (encH l)) (hn : l.length = n) (h0 : 0 < n) (y : Int) : (w.setCell ⟨g, (n - 1) * 2 + 1, none⟩ (.int .i64 y)).ownsRow B e 2 (.slice (some ⟨g, 0, none⟩) n c) n (encH (setLast l y)) := by
  unfold setLast lastH
  rw [encH_set _ _ _ (by omega), hn]
  exact owns_set h _ _
set_option maxRecDepth 100000 in
set_option maxHeartbeats 4000000 in
theorem Holes_any (l : List Pl) (a : Option Addr) (cap : Nat) (v x y : Int) (w : World) (hin : PlsIn w a l) (hlc : l.length ≤ cap) (hl : l.length ≤ 1000) :
    Calls Try.prog 31 #[.slice a l.length cap, .int .i64 v, .int .i64 x, .int .i64 y] w fun e w' => (∃ u, e = .returned (.tuple #[u, .int .i64 (askedE l v [x, y])]) ∧ HolPost l v x y w.heap.size u w') ∧ Below w.heap.size w w' := by
  have HI := Lib.hid hin
  have hb1 : Below w.heap.size w (w.alloc (.cells #[.int .i64 x, .int .i64 y] 3)) := (Below.refl _ _).alloc (Nat.le_refl _) _
  have HA := Lib.hid (asked_any l a cap v [x, y] (some ⟨w.heap.size, 0, none⟩) 2 _ (hin.below hb1) hlc hl (ints_two_new w x y) (by simp))
  have HBa := Lib.hid hb1
  have HNil : Hid (askedE l v [x, y] ≠ 0 → ∀ w', HolPost l v x y w.heap.size (.slice none 0 0) w') := Lib.hid fun h w' => by unfold HolPost; rw [if_neg h]
  have HTab := Lib.hid (fun h => @asked_two_ok l v x y h)
  have HPost : Hid (askedE l v [x, y] = 0 → ∀ u w', w'.ownsRow w.heap.size 48 2 u (holesK l v x (y - x).toNat).length (encH (holesK l v x (y - x).toNat)) → HolPost l v x y w.heap.size u w') := Lib.hid fun h v w' ho => by unfold HolPost; rw [if_pos h]; exact ho
  clear hin hb1
  generalize askedE l v [x, y] = E at *
  by_cases hE : E = 0
  rotate_left
  · have HD := Lib.hid (HNil.out hE)
    have hne : (E != 0) = true := bne_iff_ne.2 hE
    clear hE
    go_enter Try.func31, Try.ntmps31
    go_wp2_with fail
    refine HA.out.mono ?_; rintro e w1 ⟨rfl, hb1⟩
    have HB1 := Lib.hid (HBa.out.trans (hb1.mono HBa.out.size))
    clear hb1
    go_wp2_with fail
    go_ret2
    exact ⟨⟨_, rfl, HD.out _⟩, HB1.out⟩
  obtain ⟨ht, hv0, hv1, hx0, hxy, hy1⟩ := HTab.out hE
  have HT := Lib.hid ht
  have HPost := Lib.hid (fun (_ : True) => HPost.out hE)
  have HF := Lib.hid (fun (ad : Int) (w' : World) (hb : Below w.heap.size w w') => find_any l a cap v ad w' (HI.out.below hb) hl (fun k hk => HT.out.good k hk))
  subst hE
  clear ht
  obtain ⟨i0, hi, ip0, ip1, ip2⟩ := info_parts Try.infoStr
  go_enter Try.func31, Try.ntmps31
  go_wp2_with fail
  refine HA.out.mono ?_; rintro e w1 ⟨rfl, hb1⟩
  have HB1 := Lib.hid (HBa.out.trans (hb1.mono HBa.out.size))
  clear hb1
  go_wp2_with fail
  go_loopw [11, 12] (fun u i wr => ∃ k : Nat, k ≤ (y - x).toNat ∧ i = .int .i64 (x + k) ∧ wr.ownsRow w.heap.size 48 2 u (holesK l v x k).length (encH (holesK l v x k)) ∧ Below w.heap.size w wr) (fun _ i _ => (y - x).toNat - (intOf i - x).toNat)
  case atStart => exact ⟨0, Nat.zero_le _, by simp, ⟨rfl, .inl ⟨rfl, rfl⟩⟩, HB1.out⟩
  case round =>
    obtain ⟨k, hk, rfl, ho, hb⟩ := hrel
    have hhl := holesK_len l v x k
    obtain ⟨va, vc, rfl⟩ := owns_shape ho
    by_cases hlt : k < (y - x).toNat
    · have hxi : x + (k : Int) < y := by omega
      have hx1 : 0 ≤ x + (k : Int) := by omega
      have hx2 : x + (k : Int) ≤ 32768 := by omega
      have HC := Lib.hid (HF.out (x + k) wr hb)
      have hop := holes_open l v x k
      have HSt : Hid (holesK l v x (k + 1) = if isFound l v (x + k) then holesK l v x k else if decide (0 < (holesK l v x k).length) && decide ((lastH (holesK l v x k)).2 = x + k) then setLast (holesK l v x k) (x + k + 1) else holesK l v x k ++ [(x + k, x + k + 1)]) := Lib.hid rfl
      have HOp : Hid (openK l v x (k + 1) = !isFound l v (x + k)) := Lib.hid rfl
      have HO := Lib.hid ho; have HB := Lib.hid hb; have HOq := Lib.hid hop
      clear ho hb hop
      generalize holesK l v x k = out at *
      generalize openK l v x k = ok at *
      generalize foundP l v (x + k) = p at *
      obtain ⟨p0, p1, p2, p3, p4⟩ := p
      have HNm : Hid (∀ i : Int, i = x + ((k + 1 : Nat) : Int) → Value.int .i64 i = .int .i64 (x + ((k + 1 : Nat) : Int))) := Lib.hid fun i h => by rw [h]
      cases hf : isFound l v (x + k)
      rotate_left
      · rw [hf] at HC HSt HOp
        clear hf
        go_wp2_with fail
        refine HC.out.mono ?_; rintro e w2 ⟨rfl, hb2⟩
        have HB2 := Lib.hid ((HB.out.trans (hb2.mono HB.out.size)).alloc (Nat.le_trans HB.out.size hb2.size) (.cells #[.int .i64 p0, .int .i64 p1, .int .i64 p2, .int .i64 p3, .int .i64 p4] 38))
        have HO2 := Lib.hid ((owns_below HO.out hb2).alloc (.cells #[.int .i64 p0, .int .i64 p1, .int .i64 p2, .int .i64 p3, .int .i64 p4] 38))
        clear hb2
        go_wp2_with fail
        go_roundw
        case rel => exact ⟨k + 1, by omega, HNm.out _ (by omega), by rw [HSt.out]; exact HO2.out, HB2.out⟩
        case measure => simp [intOf]; omega
      rw [hf] at HC HSt HOp
      clear hf
      by_cases hjoin : 0 < out.length ∧ (lastH out).2 = x + k
      · obtain ⟨h0, hl2⟩ := hjoin
        have HStj : Hid (holesK l v x (k + 1) = setLast out (x + k + 1)) := Lib.hid (by rw [HSt.out]; simp [h0, hl2])
        have hok : ok = true := by rw [← HOq.out]; simp [h0, hl2]
        obtain ⟨n, hn⟩ : ∃ n, out.length = n + 1 := ⟨out.length - 1, by omega⟩
        have HHn := Lib.hid hn
        have hnl : n ≤ 40000 := by omega
        have hlast : atH out n = lastH out := by unfold lastH; rw [hn]; rfl
        obtain ⟨g, gc, he, hgb, hgs, _, hpy, hfz⟩ := owns_row2 HO.out (k := n) (by omega)
        simp only [Value.slice.injEq] at he
        obtain ⟨rfl, he1, rfl⟩ := he
        clear he1
        rw [hlast, hl2] at hpy
        have HPy := Lib.hid hpy; have HFz := Lib.hid (hfz (n * 2 + 1))
        subst hok
        rw [hn] at HO ⊢
        clear hpy hfz hl2 hlast h0 hn
        go_wp2_with fail
        refine HC.out.mono ?_; rintro e w2 ⟨rfl, hb2⟩
        have HB2 := Lib.hid ((HB.out.trans (hb2.mono HB.out.size)).alloc (Nat.le_trans HB.out.size hb2.size) (.cells #[.int .i64 p0, .int .i64 p1, .int .i64 p2, .int .i64 p3, .int .i64 p4] 38))
        have HO2 := Lib.hid ((owns_below HO.out hb2).alloc (.cells #[.int .i64 p0, .int .i64 p1, .int .i64 p2, .int .i64 p3, .int .i64 p4] 38))
        have hal := hb2.alloc hb2.size (.cells #[.int .i64 p0, .int .i64 p1, .int .i64 p2, .int .i64 p3, .int .i64 p4] 38)
        have hcy := keep HPy.out hal
        have hfy : (w2.alloc (.cells #[.int .i64 p0, .int .i64 p1, .int .i64 p2, .int .i64 p3, .int .i64 p4] 38)).frozen? ⟨g, n * 2 + 1, none⟩ = false := by rw [World.frozen?_of_block (w := wr) (hal.block g hgs)]; exact HFz.out
        have hn1 : (0 : Int) < (n : Int) + 1 := by omega
        have hnb : (n : Int) < (n : Int) + 1 := by omega
        have hn0 : (0 : Int) ≤ (n : Int) := by omega
        have hw1 : IntKind.i64.wrap ((n : Int) + 1 - 1) = (n : Int) := by rw [Int.add_sub_cancel]; exact IntWalk.i64_in _ (by omega)
        have hw2 : IntKind.i64.wrap (n : Int) = (n : Int) := IntWalk.i64_in _ (by omega)
        have hw3 : IntKind.i64.wrap (x + (k : Int) + 1) = x + (k : Int) + 1 := IntWalk.i64_in _ (by omega)
        clear hb2 hal
        go_wp2_with fail
        generalize w2.alloc (.cells #[.int .i64 p0, .int .i64 p1, .int .i64 p2, .int .i64 p3, .int .i64 p4] 38) = w3 at *
        have HO3 : Hid ((w3.setCell ⟨g, n * 2 + 1, none⟩ (.int .i64 (x + k + 1))).ownsRow w.heap.size 48 2 (.slice (some ⟨g, 0, none⟩) (n + 1) vc) (n + 1) (encH (setLast out (x + k + 1)))) := Lib.hid (owns_last HO2.out HHn.out (by omega) (x + k + 1))
        have HB3 := Lib.hid (HB2.out.trans (below_setCell w3 (k := n * 2 + 1) hgb (.int .i64 (x + k + 1))))
        have HLen : Hid ((setLast out (x + k + 1)).length = n + 1) := Lib.hid ((setLast_len out _).trans HHn.out)
        go_still_tail 9, (by kernel_rfl)
        change wpList _ _ _ _ _ w3.drew
        go_wp2_with fail
        go_roundw
        case rel => exact ⟨k + 1, by omega, HNm.out _ (by omega), by rw [HStj.out, HLen.out]; exact HO3.out, HB3.out.drew⟩
        case measure => simp [intOf]; omega
      · have HSta : Hid (holesK l v x (k + 1) = out ++ [(x + k, x + k + 1)]) := Lib.hid (by
          rw [HSt.out, if_neg (by decide), if_neg]
          rw [Bool.and_eq_true, decide_eq_true_iff, decide_eq_true_iff]; exact hjoin)
        have hok : ok = false := by
          rw [← HOq.out]
          cases h : (decide (0 < out.length) && decide ((lastH out).2 = x + k))
          · rfl
          · rw [Bool.and_eq_true, decide_eq_true_iff, decide_eq_true_iff] at h; exact absurd h hjoin
        subst hok
        have HS63 : Hid (out.length + 1 ≤ maxLen) := Lib.hid (by unfold maxLen; omega)
        have HSb : Hid ((out.length + 1) * 16 ≤ 140737488355328) := Lib.hid (by omega)
        have hw3 : IntKind.i64.wrap (x + (k : Int) + 1) = x + (k : Int) + 1 := IntWalk.i64_in _ (by omega)
        by_cases h0 : out.length = 0
        · have h0i : ¬ (0 : Int) < (0 : Int) := by omega
          rw [h0]
          rw [h0] at HO HS63 HSb
          go_wp2_with fail
          refine HC.out.mono ?_; rintro e w2 ⟨rfl, hb2⟩
          have HB2 := Lib.hid ((HB.out.trans (hb2.mono HB.out.size)).alloc (Nat.le_trans HB.out.size hb2.size) (.cells #[.int .i64 p0, .int .i64 p1, .int .i64 p2, .int .i64 p3, .int .i64 p4] 38))
          have HO2 := Lib.hid ((owns_below HO.out hb2).alloc (.cells #[.int .i64 p0, .int .i64 p1, .int .i64 p2, .int .i64 p3, .int .i64 p4] 38))
          clear hb2 hjoin
          go_upto_region 13 with (fail)
          generalize w2.alloc (.cells #[.int .i64 p0, .int .i64 p1, .int .i64 p2, .int .i64 p3, .int .i64 p4] 38) = w3 at *
          have HB3 := Lib.hid (HB2.out.alloc HB2.out.size (.cells #[.int .i64 (x + k), .int .i64 (x + k + 1)] 48))
          have HO3 := Lib.hid (HO2.out.alloc (.cells #[.int .i64 (x + k), .int .i64 (x + k + 1)] 48))
          have HZ3 := Lib.hid HB3.out.size
          have HNew := Lib.hid (pair_new w3 (x + k) (x + k + 1) 48)
          go_wp2_with (at_builtin; refine wpList_append_own_at _ rfl _ _ 49 rfl w.heap.size 48 i0 (.agg #[.int .i64 0, .int .i64 0]) 2 16 Try.underlying49 hi ip0 ip1 ip2 rfl (by decide) _ _ _ rfl HO3.out ⟨w3.heap.size, 0, none⟩ 1 1 [.int .i64 (x + k), .int .i64 (x + k + 1)] rfl rfl HNew.out (two_one _ _) HS63.out HSb.out HZ3.out ?_; intro v9 w9 hown9 hgrow9 _ hat9; have HB9 := Lib.hid (HB3.out.grown hgrow9 HZ3.out (fun g hg => (owns_block HO3.out hg).1)); have HO9 := Lib.hid hown9; clear hown9 hgrow9 hat9)
          go_roundw
          case rel => exact ⟨k + 1, by omega, HNm.out _ (by omega), by rw [HSta.out, List.length_append, h0, encH_snoc]; exact HO9.out, HB9.out⟩
          case measure => simp [intOf]; omega
        · obtain ⟨n, hn⟩ : ∃ n, out.length = n + 1 := ⟨out.length - 1, by omega⟩
          have hnl : n ≤ 40000 := by omega
          have hlast : atH out n = lastH out := by unfold lastH; rw [hn]; rfl
          have hne : (lastH out).2 ≠ x + k := fun e => hjoin ⟨by omega, e⟩
          obtain ⟨g, gc, he, hgb, hgs, _, hpy, hfz⟩ := owns_row2 HO.out (k := n) (by omega)
          simp only [Value.slice.injEq] at he
          obtain ⟨rfl, he1, rfl⟩ := he
          clear he1
          rw [hlast] at hpy
          have HPy := Lib.hid hpy
          have hn1 : (0 : Int) < (n : Int) + 1 := by omega
          have hnb : (n : Int) < (n : Int) + 1 := by omega
          have hn0 : (0 : Int) ≤ (n : Int) := by omega
          have hw1 : IntKind.i64.wrap ((n : Int) + 1 - 1) = (n : Int) := by rw [Int.add_sub_cancel]; exact IntWalk.i64_in _ (by omega)
          have hw2 : IntKind.i64.wrap (n : Int) = (n : Int) := IntWalk.i64_in _ (by omega)
          have hq1 : ((lastH out).2 == x + (k : Int)) = false := beq_eq_false_iff_ne.2 hne
          have hq2 : decide ((lastH out).2 = x + (k : Int)) = false := decide_eq_false hne
          generalize hlo : (lastH out).2 = lo at *
          have HLo := Lib.hid hlo
          have HHn := Lib.hid hn
          rw [hn] at HO HS63 HSb ⊢
          clear hpy hfz hlast hne hlo hn
          go_wp2_with fail
          refine HC.out.mono ?_; rintro e w2 ⟨rfl, hb2⟩
          have HB2 := Lib.hid ((HB.out.trans (hb2.mono HB.out.size)).alloc (Nat.le_trans HB.out.size hb2.size) (.cells #[.int .i64 p0, .int .i64 p1, .int .i64 p2, .int .i64 p3, .int .i64 p4] 38))
          have HO2 := Lib.hid ((owns_below HO.out hb2).alloc (.cells #[.int .i64 p0, .int .i64 p1, .int .i64 p2, .int .i64 p3, .int .i64 p4] 38))
          have hal := hb2.alloc hb2.size (.cells #[.int .i64 p0, .int .i64 p1, .int .i64 p2, .int .i64 p3, .int .i64 p4] 38)
          have hcy := keep HPy.out hal
          clear hal
          clear hb2 hjoin
          go_upto_region 13 with (fail)
          generalize w2.alloc (.cells #[.int .i64 p0, .int .i64 p1, .int .i64 p2, .int .i64 p3, .int .i64 p4] 38) = w3 at *
          have HB3 := Lib.hid (HB2.out.alloc HB2.out.size (.cells #[.int .i64 (x + k), .int .i64 (x + k + 1)] 48))
          have HO3 := Lib.hid (HO2.out.alloc (.cells #[.int .i64 (x + k), .int .i64 (x + k + 1)] 48))
          have HZ3 := Lib.hid HB3.out.size
          have HNew := Lib.hid (pair_new w3 (x + k) (x + k + 1) 48)
          go_wp2_with (at_builtin; refine wpList_append_own_at _ rfl _ _ 49 rfl w.heap.size 48 i0 (.agg #[.int .i64 0, .int .i64 0]) 2 16 Try.underlying49 hi ip0 ip1 ip2 rfl (by decide) _ _ _ rfl HO3.out ⟨w3.heap.size, 0, none⟩ 1 1 [.int .i64 (x + k), .int .i64 (x + k + 1)] rfl rfl HNew.out (two_one _ _) HS63.out HSb.out HZ3.out ?_; intro v9 w9 hown9 hgrow9 _ hat9; have HB9 := Lib.hid (HB3.out.grown hgrow9 HZ3.out (fun g hg => (owns_block HO3.out hg).1)); have HO9 := Lib.hid hown9; clear hown9 hgrow9 hat9)
          go_roundw
          case rel => exact ⟨k + 1, by omega, HNm.out _ (by omega), by rw [HSta.out, List.length_append, HHn.out, encH_snoc]; exact HO9.out, HB9.out⟩
          case measure => simp [intOf]; omega
    · obtain rfl : k = (y - x).toNat := by omega
      have hxi : ¬ x + ((y - x).toNat : Int) < y := by omega
      have HP := Lib.hid (HPost.out trivial _ _ ho); have HB := Lib.hid hb
      clear ho hb
      go_wp2_with fail
      go_ret2
      exact ⟨⟨_, rfl, HP.out⟩, HB.out⟩
end Go.Proofs.Ytmhneonebjcieaa
