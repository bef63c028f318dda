/- The walk of Shift of the program. -/
import Derived.Test.YtmhneonebjcieaaSH
namespace Go.Proofs.Ytmhneonebjcieaa
open Go.RowKit

theorem ret_two {v : Value} {a b : Int} (h : a = b) : Ending.returned (.tuple #[v, .int .i64 a]) = .returned (.tuple #[v, .int .i64 b]) := by rw [h]
theorem fits_iff {d : Int} {p : Pl} : fitsB d p = true ↔ -p.fr ≤ d ∧ d ≤ 32768 - p.to := by
  unfold fitsB within
  rw [Bool.and_eq_true, decide_eq_true_iff, decide_eq_true_iff]
theorem shiftE_bad {l : List Pl} {d : Int} (hE : valE l = 0) {k : Nat} (hk : k < l.length) (h : fitsB d (at' l k) = false) : shiftE l d = 1 := by
  unfold shiftE
  rw [if_neg (by simp [hE]), if_pos]
  exact anyTo_true.2 ⟨k, hk, by rw [h]; rfl⟩
theorem shiftE_good {l : List Pl} {d : Int} (hE : valE l = 0) (h : ∀ k, k < l.length → fitsB d (at' l k) = true) : shiftE l d = 0 := by
  unfold shiftE
  rw [if_neg (by simp [hE]), if_neg]
  rw [anyTo_false.2 fun k hk => by rw [h k hk]; rfl]
  decide
set_option maxRecDepth 100000 in
set_option maxHeartbeats 4000000 in
theorem Shift_any (l : List Pl) (a : Option Addr) (cap : Nat) (d : Int) (w : World) (hin : PlsIn w a l) (hf : FlatA a) (hlc : l.length ≤ cap) (hl : l.length ≤ 1000) :
    Calls Try.prog 20 #[.slice a l.length cap, .int .i64 d] w fun e w' => (∃ v, e = .returned (.tuple #[v, .int .i64 (shiftE l d)]) ∧ ShPost l d w.heap.size v w') ∧ Below w.heap.size w w' := by
  have HV := Lib.hid (valid_any l a cap w hin hlc hl)
  have HC := Lib.hid (fun (w' : World) (hb : Below w.heap.size w w') => clone_any l a cap w' (hin.below hb) hf hl)
  clear hin hf
  by_cases hE : valE l = 0
  rotate_left
  · have hA : shiftE l d = valE l := by unfold shiftE; rw [if_pos hE]
    have HD : Hid (∀ w', ShPost l d w.heap.size (.slice none 0 0) w') := Lib.hid fun w' => by unfold ShPost; rw [if_neg (by rw [hA]; exact hE)]
    rw [hA]
    have hne : (valE l != 0) = true := bne_iff_ne.2 hE
    generalize valE l = E at *
    clear hE hA
    go_enter Try.func20, Try.ntmps20
    go_wp2_with fail
    refine HV.out.mono ?_; rintro e w1 ⟨rfl, hb1⟩
    go_wp2_with fail
    go_ret2
    exact ⟨⟨_, rfl, HD.out _⟩, hb1⟩
  have HT := Lib.hid (valE_zero.1 hE)
  have HBad : Hid (∀ k, k < l.length → fitsB d (at' l k) = false → shiftE l d = 1 ∧ ∀ w', ShPost l d w.heap.size (.slice none 0 0) w') := Lib.hid fun k hk h => ⟨shiftE_bad hE hk h, fun w' => by unfold ShPost; rw [if_neg (by rw [shiftE_bad hE hk h]; decide)]⟩
  have HGood : Hid ((∀ k, k < l.length → fitsB d (at' l k) = true) → shiftE l d = 0 ∧ ∀ v w', w'.ownsRow w.heap.size 38 5 v l.length (encPl (l.map (shiftP d))) → ShPost l d w.heap.size v w') := Lib.hid fun h => ⟨shiftE_good hE h, fun v w' ho => by unfold ShPost; rw [if_pos (shiftE_good hE h)]; exact ho⟩
  rw [hE] at HV
  clear hE
  generalize shiftE l d = E at *
  go_enter Try.func20, Try.ntmps20
  go_wp2_with fail
  refine HV.out.mono ?_; rintro e w1 ⟨rfl, hb1⟩
  have HB1 := Lib.hid hb1
  clear hb1
  go_wp2_with fail
  refine (HC.out _ HB1.out).mono ?_; rintro e w2 ⟨v, rfl, ho, hb2⟩
  have HB2 := Lib.hid (HB1.out.trans (hb2.mono HB1.out.size))
  have ho := owns_base ho HB1.out.size
  obtain ⟨va, vc, rfl⟩ := owns_shape ho
  have HO := Lib.hid ho
  clear ho hb2
  go_wp2_with fail
  go_loopw [19] (fun i wr => ∃ k : Nat, k ≤ l.length ∧ i = .int .i64 k ∧ (∀ j, j < k → fitsB d (at' l j) = true) ∧ wr.ownsRow w.heap.size 38 5 (.slice va l.length vc) l.length (encPl (mixS l d k)) ∧ Below w.heap.size w wr) (fun i _ => l.length - (intOf i).toNat)
  case atStart => exact ⟨0, Nat.zero_le _, rfl, fun j hj => absurd hj (Nat.not_lt_zero _), by rw [mixS_zero]; exact HO.out, HB2.out⟩
  case round =>
    obtain ⟨k, hk, rfl, hfit, ho, hb⟩ := hrel
    have HFit := Lib.hid hfit; clear hfit
    by_cases hlt : k < l.length
    · have hki : (k : Int) < (l.length : Int) := by omega
      have hk0 : (0 : Int) ≤ (k : Int) := by omega
      have ho' : wr.ownsRow w.heap.size 38 5 (.slice va l.length vc) (mixS l d k).length (encPl (mixS l d k)) := by rw [mixS_len]; exact ho
      obtain ⟨g, gc, he, hgc, hgb, hgs, hpl, hfz, _⟩ := owns_row5 ho' (k := k) (by rw [mixS_len]; exact hlt)
      simp only [Value.slice.injEq] at he
      obtain ⟨rfl, hx1, rfl⟩ := he
      clear hx1
      have ho2 := owns_set (owns_set ho (k * 5) (.int .i64 ((at' l k).fr + d))) (k * 5 + 1) (.int .i64 ((at' l k).to + d))
      rw [mixS_at hlt] at hpl
      have henc := encPl_set2 (mixS l d k) k d (by rw [mixS_len]; exact hlt)
      rw [mixS_at hlt, ← mixS_next hlt] at henc
      rw [← henc] at ho2
      obtain ⟨f0, ft, t1, v0, v1, k0, k1, n0, n1⟩ := HT.out.good k hlt
      have HNx : Hid (fitsB d (at' l k) = true → ∀ j, j < k + 1 → fitsB d (at' l j) = true) := Lib.hid fun h j hj => by
        by_cases e : j = k
        · rw [e]; exact h
        · exact HFit.out j (by omega)
      have HBk := Lib.hid (HBad.out k hlt)
      have HW := Lib.hid (fun b (h : fitsB d (at' l k) = b) => within_is (n := d) (lo := -(at' l k).fr) (hi := 32768 - (at' l k).to) (b := b) h)
      have HFi := Lib.hid (@fits_iff d (at' l k))
      have HO2 := Lib.hid ho2; have HB := Lib.hid hb
      have fz0 := hfz (k * 5)
      have fz1 := hfz (k * 5 + 1)
      obtain ⟨c0, c1, c2, c3, c4⟩ := hpl
      clear ho ho' ho2 henc hfz hb
      generalize at' l k = x at *
      obtain ⟨x0, x1, x2, x3, x4⟩ := x
      simp only at c0 c1 c2 c3 c4 f0 ft t1 v0 v1 k0 k1 n0 n1
      clear v0 v1 k0 k1 n0 n1
      cases hfx : fitsB d ⟨x0, x1, x2, x3, x4⟩
      · obtain ⟨hE1, hD⟩ := HBk.out hfx
        have HD := Lib.hid hD; have HE1 := Lib.hid hE1
        have HWx := Lib.hid (HW.out _ hfx)
        clear hD hE1 hfx
        go_wp2_with fail
        refine (HWx.out _).mono ?_; rintro e w3 ⟨rfl, rfl⟩
        go_wp2_with fail
        go_ret2
        exact ⟨⟨_, ret_two HE1.out.symm, HD.out _⟩, HB.out.alloc HB.out.size _⟩
      · have hfi := HFi.out.1 hfx
        simp only at hfi
        obtain ⟨hi1, hi2⟩ := hfi
        have HN := Lib.hid (HNx.out hfx)
        have HWx := Lib.hid (HW.out _ hfx)
        have hi3 : 0 ≤ x0 + d := by omega
        have hi4 : x0 + d ≤ 32768 := by omega
        have hi5 : 0 ≤ x1 + d := by omega
        have hi6 : x1 + d ≤ 32768 := by omega
        clear hfx
        go_wp2_with fail
        refine (HWx.out _).mono ?_; rintro e w3 ⟨rfl, rfl⟩
        go_wp2_with fail
        go_roundw
        case rel => exact ⟨k + 1, by omega, by go_num, HN.out, HO2.out.alloc _, ((HB.out.trans (below_setCell _ hgb _)).trans (below_setCell _ hgb _)).alloc (by simp [World.setCell]; omega) _⟩
        case measure => simp [intOf]; omega
    · obtain rfl : k = l.length := by omega
      obtain ⟨hE0, hP⟩ := HGood.out HFit.out
      rw [mixS_full] at ho
      have HP := Lib.hid (hP _ _ ho); have HB := Lib.hid hb; have HE0 := Lib.hid hE0
      clear ho hb hP hE0
      go_wp2_with fail
      go_ret2
      exact ⟨⟨_, ret_two HE0.out.symm, HP.out⟩, HB.out⟩
end Go.Proofs.Ytmhneonebjcieaa
