/- The walk of Cut of the document. -/
import Derived.Test.YtmhneonebjcieaaCU
import Derived.Test.YtmhneonebjcieaaHR
import Derived.Test.YtmhneonebjcieaaSW
namespace Go.Proofs.Ytmhneonebjcieaa
open Go.RowKit

set_option maxRecDepth 100000 in
set_option maxHeartbeats 4000000 in
theorem rCut_any (l : List Pl) (a : Option Addr) (cap : Nat) (f t : Int) (w : World) (hin : PlsIn w a l) (hl : l.length ≤ 1000) :
    Calls Try.prog 37 #[.slice a l.length cap, .int .i64 f, .int .i64 t] w fun e w' => (∃ u, e = .returned (.tuple #[u, .int .i64 (askedE l 0 [f, t])]) ∧ CutPost l f t w.heap.size u w') ∧ Below w.heap.size w w' := by
  have HI := Lib.hid hin
  have HV := Lib.hid (rValid_any l a cap w hin hl)
  have HNil : Hid (askedE l 0 [f, t] ≠ 0 → ∀ w', CutPost l f t w.heap.size (.slice none 0 0) w') := Lib.hid fun h w' => by unfold CutPost; rw [if_neg h]
  have HPost : Hid (askedE l 0 [f, t] = 0 → ∀ u w', w'.ownsRow w.heap.size 38 5 u (cutK l f t l.length).length (encPl (sortP (cutK l f t l.length))) → CutPost l f t w.heap.size u w') := Lib.hid fun h v w' ho => by unfold CutPost; rw [if_pos h]; exact ho
  clear hin
  by_cases hE : valE l = 0
  rotate_left
  · have hA : askedE l 0 [f, t] = valE l := by unfold askedE; rw [if_pos hE]
    have HD := Lib.hid (HNil.out (by rw [hA]; exact hE))
    rw [hA]
    have hne : (valE l != 0) = true := bne_iff_ne.2 hE
    generalize valE l = E at *
    clear hE hA
    go_enter Try.func37, Try.ntmps37
    go_wp2_with fail
    refine HV.out.mono ?_; rintro e w1 ⟨rfl, hb1⟩
    have HB1 := Lib.hid hb1
    clear hb1
    go_wp2_with fail
    go_ret2
    exact ⟨⟨_, rfl, HD.out _⟩, HB1.out⟩
  have hA := asked_two (v := 0) (x := f) (y := t) hE
  have hw0 : within 0 0 63 = true := by decide
  rw [hw0, Bool.true_and] at hA
  have HTab := Lib.hid (fun h => @asked_two_ok l 0 f t h)
  rw [hE] at HV
  cases hr : (within f 0 32768 && (within t 0 32768 && decide (f ≤ t)))
  · rw [hr] at hA
    have hA : askedE l 0 [f, t] = 1 := hA
    have HD := Lib.hid (HNil.out (by rw [hA]; decide))
    rw [hA]
    have HC2 := Lib.hid (ranged_is hr)
    clear hE hA hr HTab
    go_enter Try.func37, Try.ntmps37
    go_wp2_with fail
    refine HV.out.mono ?_; rintro e w1 ⟨rfl, hb1⟩
    have HB1 := Lib.hid hb1
    clear hb1
    go_wp2_with fail
    refine (HC2.out _).mono ?_; rintro e w2 ⟨rfl, rfl⟩
    go_wp2_with fail
    go_ret2
    exact ⟨⟨_, rfl, HD.out _⟩, HB1.out⟩
  rw [hr] at hA
  have hA : askedE l 0 [f, t] = 0 := hA
  obtain ⟨ht, _, _, hx0, hxy, hy1⟩ := HTab.out hA
  have HT := Lib.hid ht
  have HPost := Lib.hid (fun (_ : True) => HPost.out hA)
  rw [hA]
  have HC2 := Lib.hid (ranged_is hr)
  clear hE hA hr HNil HTab ht
  obtain ⟨i0, hi, ip0, ip1, ip2⟩ := info_parts Try.infoPlace
  go_enter Try.func37, Try.ntmps37
  go_wp2_with fail
  refine HV.out.mono ?_; rintro e w1 ⟨rfl, hb1⟩
  have HB1 := Lib.hid hb1
  clear hb1
  go_wp2_with fail
  refine (HC2.out _).mono ?_; rintro e w2 ⟨rfl, rfl⟩
  go_wp2_with fail
  go_loopw [9, 10] (fun u i wr => ∃ k : Nat, k ≤ l.length ∧ i = .int .i64 k ∧ wr.ownsRow w.heap.size 38 5 u (cutK l f t k).length (encPl (cutK l f t k)) ∧ Below w.heap.size w wr) (fun _ i _ => l.length - (intOf i).toNat)
  case atStart => exact ⟨0, Nat.zero_le _, rfl, ⟨rfl, .inl ⟨rfl, rfl⟩⟩, HB1.out⟩
  case round =>
    obtain ⟨k, hk, rfl, ho, hb⟩ := hrel
    have hkl := cutK_len l f t k
    obtain ⟨va, vc, rfl⟩ := owns_shape ho
    by_cases hlt : k < l.length
    · have hki : (k : Int) < l.length := by omega
      have hk0 : (0 : Int) ≤ (k : Int) := by omega
      obtain ⟨b, off, rfl, hpx⟩ := HI.out.below hb k hlt
      have hnx := cutK_next (f := f) (t := t) hlt
      obtain ⟨g0, g1, g2, _⟩ := HT.out.good k hlt
      have HO := Lib.hid ho; have HB := Lib.hid hb; have HNx := Lib.hid hnx
      clear ho hb hnx
      generalize cutK l f t k = out at *
      generalize at' l k = x at *
      obtain ⟨x0, x1, x2, x3, x4⟩ := x
      obtain ⟨c0, c1, c2, c3, c4⟩ := hpx
      simp only at c0 c1 c2 c3 c4 g0 g1 g2
      by_cases hc : max x0 f < min x1 t
      · have HNy : Hid (cutK l f t (k + 1) = out ++ [⟨max x0 f, min x1 t, x2, x3, x4⟩]) := Lib.hid (by rw [HNx.out]; exact if_pos hc)
        have HS63 : Hid (out.length + 1 ≤ maxLen) := Lib.hid (by unfold maxLen; omega)
        have HSb : Hid ((out.length + 1) * 40 ≤ 140737488355328) := Lib.hid (by omega)
        have HB2 := Lib.hid ((HB.out.alloc HB.out.size (.cells #[.int .i64 (max x0 f), .int .i64 (min x1 t), .int .i64 x2, .int .i64 x3, .int .i64 x4] 38)).alloc (Nat.le_trans HB.out.size (by simp)) (.cells #[.int .i64 (max x0 f), .int .i64 (min x1 t), .int .i64 x2, .int .i64 x3, .int .i64 x4] 38))
        have HO2 := Lib.hid ((HO.out.alloc (.cells #[.int .i64 (max x0 f), .int .i64 (min x1 t), .int .i64 x2, .int .i64 x3, .int .i64 x4] 38)).alloc (.cells #[.int .i64 (max x0 f), .int .i64 (min x1 t), .int .i64 x2, .int .i64 x3, .int .i64 x4] 38))
        have HZ2 := Lib.hid HB2.out.size
        have HNew : Hid (∀ j u, ([.int .i64 (max x0 f), .int .i64 (min x1 t), .int .i64 x2, .int .i64 x3, .int .i64 x4] : List Value)[j]? = some u → ((wr.alloc (.cells #[.int .i64 (max x0 f), .int .i64 (min x1 t), .int .i64 x2, .int .i64 x3, .int .i64 x4] 38)).alloc (.cells #[.int .i64 (max x0 f), .int .i64 (min x1 t), .int .i64 x2, .int .i64 x3, .int .i64 x4] 38)).cell? ((⟨wr.heap.size + 1, 0, none⟩ : Addr).add j) = some u) := Lib.hid (by have := cell_five_new (wr.alloc (.cells #[.int .i64 (max x0 f), .int .i64 (min x1 t), .int .i64 x2, .int .i64 x3, .int .i64 x4] 38)) (.int .i64 (max x0 f)) (.int .i64 (min x1 t)) (.int .i64 x2) (.int .i64 x3) (.int .i64 x4) 38; simpa using this)
        go_wp2_with (at_builtin; refine wpList_append_own_at _ rfl _ _ 22 rfl w.heap.size 38 i0 (.agg #[.int .i64 0, .int .i64 0, .int .i64 0, .int .i64 0, .int .i64 0]) 5 40 Try.underlying22 hi ip0 ip1 ip2 rfl (by decide) _ _ _ rfl HO2.out ⟨wr.heap.size + 1, 0, none⟩ 1 1 [.int .i64 (max x0 f), .int .i64 (min x1 t), .int .i64 x2, .int .i64 x3, .int .i64 x4] rfl rfl HNew.out (one_cells5 _ _ _ _ _) HS63.out HSb.out HZ2.out ?_; intro v9 w9 hown9 hgrow9 _ hat9; have HB9 := Lib.hid (HB2.out.grown hgrow9 HZ2.out (fun g hg => (owns_block HO2.out hg).1)); have HO9 := Lib.hid hown9; clear hown9 hgrow9 hat9)
        go_roundw
        case rel => exact ⟨k + 1, by omega, by go_num, by rw [HNy.out, List.length_append, encPl_snoc]; exact HO9.out, HB9.out⟩
        case measure => simp [intOf]; omega
      · have HNy : Hid (cutK l f t (k + 1) = out) := Lib.hid (by rw [HNx.out]; exact if_neg hc)
        go_wp2_with fail
        go_roundw
        case rel => exact ⟨k + 1, by omega, by go_num, by rw [HNy.out]; exact HO.out.alloc _, HB.out.alloc HB.out.size _⟩
        case measure => simp [intOf]; omega
    · obtain rfl : k = l.length := by omega
      have hki : ¬ (l.length : Int) < (l.length : Int) := by omega
      obtain ⟨va', vc', he, hlc', hin'⟩ := plSl_of_owns ho
      simp only [Value.slice.injEq, true_and] at he
      obtain ⟨rfl, rfl⟩ := he
      have HSo := Lib.hid (sorted_any _ va vc wr hin' (by omega))
      have HBl := Lib.hid hb
      clear ho hb hin'
      go_wp2_with fail
      refine HSo.out.mono ?_; rintro e w5 ⟨⟨v5, rfl, ho5⟩, hb5⟩
      have HB5 := Lib.hid (HBl.out.trans (hb5.mono HBl.out.size))
      have HP := Lib.hid (HPost.out trivial _ _ (owns_base ho5 HBl.out.size))
      clear ho5 hb5
      go_wp2_with fail
      go_ret2
      exact ⟨⟨_, rfl, HP.out⟩, HB5.out⟩
end Go.Proofs.Ytmhneonebjcieaa
