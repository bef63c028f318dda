/- The laws' walks: sums and powers. -/
import Derived.Test.YtodkfjdifchibaaDoorW8
import Derived.StillTailTactics
namespace Go.Proofs.YtodkfjdifchibaaDoor
open Go.RowKit

theorem bc {W w1 : World} (hb : Below W.heap.size W w1) {b : Nat} (h : b < W.heap.size) : ∀ j, w1.cell? ⟨b, j, none⟩ = W.cell? ⟨b, j, none⟩ :=
  fun j => hb.cell (p := ⟨b, j, none⟩) h
/-- One step more adds one number more. -/
theorem total_more (n s t c : Int) : (totalV n s t c + afterV n s t c) % 2 ^ n.toNat = totalV n s t (c + 1) % 2 ^ n.toNat := by
  have d : (2 : Int) ^ n.toNat ∣ 2 ^ n.toNat := Int.dvd_refl _
  unfold totalV afterV
  refine ((Cg.mod d).add (Cg.mod d)).tr (Cg.tr (Cg.of ?_) (Cg.mod d).sym)
  rw [pairs_succ, Int.add_mul, Int.add_mul]
  omega
theorem totalV_bd (n s t c : Int) (h2 : n ≤ 32) : 0 ≤ totalV n s t c ∧ totalV n s t c ≤ mx n := by
  have p := (pow_bd n h2).1
  have a := Int.emod_nonneg (c * s + pairs c * t) (show (2 : Int) ^ n.toNat ≠ 0 by omega)
  have b := Int.emod_lt_of_pos (c * s + pairs c * t) (show 0 < (2 : Int) ^ n.toNat by omega)
  unfold totalV mx; omega

set_option maxHeartbeats 1000000 in
theorem sums_bad (p n s t b k : Int) (w : World) (hT : Tab w) (hu : WordsU32 [s, t]) (h : cB n k [s, t] = false) :
    Calls Tryd.prog 5 #[.agg #[.int .i64 p, .int .i64 n, .int .u32 s, .int .u32 t, .int .u32 b], .int .i64 k] w fun e w' => e = .returned (.bool true) ∧ Below w.heap.size w w' := by
  have H := Lib.hid h; have HU := Lib.hid hu; clear h hu
  have HT := Lib.hid (hT.below ((Below.refl _ w).alloc (Nat.le_refl _) (.cells #[.int .i64 p, .int .i64 n, .int .u32 s, .int .u32 t, .int .u32 b] 24))); clear hT
  go_enter Tryd.func5, Tryd.ntmps5
  go_wp2_with fail
  refine (After_bad _ _ _ _ _ H.out).mono ?_; rintro e w1 ⟨rfl, hb1⟩
  have hc1 := bc hb1 (b := w.heap.size) (by simp)
  go_wp2_with fail
  refine (rAfter_bad _ _ _ _ _ H.out HU.out).mono ?_; rintro e w2 ⟨rfl, hb2⟩
  have hb2 := hb1.trans (hb2.mono hb1.size); clear hb1 hc1
  have hc2 := bc hb2 (b := w.heap.size) (by simp)
  go_wp2_with fail
  refine (Total_bad _ _ _ _ _ H.out).mono ?_; rintro e w3 ⟨rfl, hb3⟩
  have hb3 := hb2.trans (hb3.mono hb2.size); clear hb2 hc2
  have hc3 := bc hb3 (b := w.heap.size) (by simp)
  go_wp2_with fail
  refine (rTotal_bad _ _ _ _ _ H.out HU.out).mono ?_; rintro e w4 ⟨rfl, hb4⟩
  have hb4 := hb3.trans (hb4.mono hb3.size); clear hb3 hc3
  have hc4 := bc hb4 (b := w.heap.size) (by simp)
  go_wp2_with fail
  refine (known_any _ (HT.out.below hb4)).mono ?_; rintro e w5 ⟨rfl, hb5⟩
  go_wp2_with fail
  go_ret
  exact ⟨rfl, ((Below.refl _ _).alloc (Nat.le_refl _) _).trans ((hb4.trans (hb5.mono hb4.size)).mono (by simp))⟩

set_option maxHeartbeats 1000000 in
theorem sums_ok (p n s t b k : Int) (w : World) (hT : Tab w) (hu : WordsU32 [s, t]) (h : cB n k [s, t] = true) :
    Calls Tryd.prog 5 #[.agg #[.int .i64 p, .int .i64 n, .int .u32 s, .int .u32 t, .int .u32 b], .int .i64 k] w fun e w' => e = .returned (.bool true) ∧ Below w.heap.size w w' := by
  have hi := cB_iff.1 h
  have h1 := hi.1.1; have h2 := hi.1.2; have k0 := hi.2.1.1; have k1 := hi.2.1.2
  have H' : k < 4294967296 → cB n (k + 1) [s, t] = true := fun hk => cB_iff.2 ⟨hi.1, ⟨by omega, by omega⟩, hi.2.2⟩
  have hm := Lib.hid (total_more n s t k)
  have hv1 := afterV_bd n s t k h2
  have hv2 := totalV_bd n s t k h2
  have hv3 := totalV_bd n s t (k + 1) h2
  have hmx := mx_bd n h2
  have HA := Lib.hid (fun w => After_ok n s t k w h)
  have HB := Lib.hid (fun w => rAfter_ok n s t k w h hu)
  have HC := Lib.hid (fun w => Total_ok n s t k w h)
  have HD := Lib.hid (fun w => rTotal_ok n s t k w h hu)
  have HE := Lib.hid (fun w hk => Total_ok n s t (k + 1) w (H' hk))
  have HT := Lib.hid (hT.below ((Below.refl _ w).alloc (Nat.le_refl _) (.cells #[.int .i64 p, .int .i64 n, .int .u32 s, .int .u32 t, .int .u32 b] 24))); clear hT H' h hi hu
  generalize afterV n s t k = va at *
  generalize totalV n s t k = vb at *
  generalize totalV n s t (k + 1) = vc at *
  obtain ⟨va0, va1⟩ := hv1
  obtain ⟨vb0, vb1⟩ := hv2
  obtain ⟨vc0, vc1⟩ := hv3
  have ww := wwrap n h2
  obtain ⟨p1, p2⟩ := pow_bd n h2
  have p3 : ¬ (2 : Int) ^ n.toNat = 0 := by omega
  have e1 : (vb + va).tmod (2 ^ n.toNat) = vc % 2 ^ n.toNat := (Int.tmod_eq_emod_of_nonneg (by omega)).trans hm.out
  have e2 : vc.tmod (2 ^ n.toNat) = vc % 2 ^ n.toNat := Int.tmod_eq_emod_of_nonneg (by omega)
  have w1' : IntKind.u64.wrap (vb + va) = vb + va := by rw [IntKind.wrap_u64]; omega
  have w2' : IntKind.u64.wrap vc = vc := by rw [IntKind.wrap_u64]; omega
  have w3' : IntKind.u64.wrap va = va := by rw [IntKind.wrap_u64]; omega
  have w4' : IntKind.u64.wrap vb = vb := by rw [IntKind.wrap_u64]; omega
  have wn : IntKind.u64.wrap n = n := by rw [IntKind.wrap_u64]; omega
  have va2 : va ≤ 4294967295 := by omega
  have vb2 : vb ≤ 4294967295 := by omega
  have vc2 : vc ≤ 4294967295 := by omega
  clear hm hmx va1 vb1 vc1
  by_cases hk : k = 4294967296
  · have hkb : (k == 4294967296) = true := by simpa using hk
    clear HE hk
    go_enter Tryd.func5, Tryd.ntmps5
    go_wp2_with fail
    refine (HA.out _).mono ?_; rintro e w1 ⟨rfl, hb1⟩
    have hc1 := bc hb1 (b := w.heap.size) (by simp)
    go_wp2_with fail
    refine (HB.out _).mono ?_; rintro e w2 ⟨rfl, hb2⟩
    have hb2 := hb1.trans (hb2.mono hb1.size); clear hb1 hc1
    have hc2 := bc hb2 (b := w.heap.size) (by simp)
    go_wp2_with fail
    refine (HC.out _).mono ?_; rintro e w3 ⟨rfl, hb3⟩
    have hb3 := hb2.trans (hb3.mono hb2.size); clear hb2 hc2
    have hc3 := bc hb3 (b := w.heap.size) (by simp)
    go_wp2_with fail
    refine (HD.out _).mono ?_; rintro e w4 ⟨rfl, hb4⟩
    have hb4 := hb3.trans (hb4.mono hb3.size); clear hb3 hc3
    have hc4 := bc hb4 (b := w.heap.size) (by simp)
    go_wp2_with fail
    refine (known_any _ (HT.out.below hb4)).mono ?_; rintro e w5 ⟨rfl, hb5⟩
    go_wp2_with fail
    go_ret
    exact ⟨rfl, ((Below.refl _ _).alloc (Nat.le_refl _) _).trans ((hb4.trans (hb5.mono hb4.size)).mono (by simp))⟩
  · have hkb : (k == 4294967296) = false := by simpa using hk
    have hk1 : k < 4294967296 := by omega
    clear hk
    go_enter Tryd.func5, Tryd.ntmps5
    go_wp2_with fail
    refine (HA.out _).mono ?_; rintro e w1 ⟨rfl, hb1⟩
    have hc1 := bc hb1 (b := w.heap.size) (by simp)
    go_wp2_with fail
    refine (HB.out _).mono ?_; rintro e w2 ⟨rfl, hb2⟩
    have hb2 := hb1.trans (hb2.mono hb1.size); clear hb1 hc1
    have hc2 := bc hb2 (b := w.heap.size) (by simp)
    go_wp2_with fail
    refine (HC.out _).mono ?_; rintro e w3 ⟨rfl, hb3⟩
    have hb3 := hb2.trans (hb3.mono hb2.size); clear hb2 hc2
    have hc3 := bc hb3 (b := w.heap.size) (by simp)
    go_wp2_with fail
    refine (HD.out _).mono ?_; rintro e w4 ⟨rfl, hb4⟩
    have hb4 := hb3.trans (hb4.mono hb3.size); clear hb3 hc3
    have hc4 := bc hb4 (b := w.heap.size) (by simp)
    go_wp2_with fail
    refine (HE.out _ hk1).mono ?_; rintro e w5 ⟨rfl, hb5⟩
    have hb5 := hb4.trans (hb5.mono hb4.size); clear hb4 hc4
    have hc5 := bc hb5 (b := w.heap.size) (by simp)
    go_wp2_with fail
    go_still_tail 23, (by kernel_rfl)
    change wpList _ _ _ _ _ w5.drew
    go_wp2_with fail
    refine (known_any _ (HT.out.below hb5.drew)).mono ?_; rintro e w6 ⟨rfl, hb6⟩
    go_wp2_with fail
    go_ret
    exact ⟨rfl, ((Below.refl _ _).alloc (Nat.le_refl _) _).trans ((hb5.drew.trans (hb6.mono hb5.size)).mono (by simp))⟩
end Go.Proofs.YtodkfjdifchibaaDoor
