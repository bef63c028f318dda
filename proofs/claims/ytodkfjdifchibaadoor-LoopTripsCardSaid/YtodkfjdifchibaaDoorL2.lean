/- The law's walk: powers and rings. -/
import Derived.Test.YtodkfjdifchibaaDoorL1
namespace Go.Proofs.YtodkfjdifchibaaDoor
open Go.RowKit

theorem after_back (n b : Int) (h2 : n ≤ 32) (t0 : 0 ≤ b) (t1 : b ≤ mx n) : afterV n 0 b (ringV n b) = 0 := by
  obtain ⟨u, hu⟩ := ring_mul n b h2 t0 t1
  unfold afterV
  rw [hu, Int.zero_add, Int.mul_emod_right]
theorem cB_zero {n c b : Int} (h : cB n c [b] = true) : cB n 0 [b] = true := by
  have hi := cB_iff.1 h
  exact cB_iff.2 ⟨hi.1, ⟨by omega, by omega⟩, hi.2.2⟩

/-- What both calls of a power give. -/
theorem powers_ring (n b : Int) (h : cB n 0 [b] = true) :
    cB n (ringV n b) [0, b] = true := by
  have hi := cB_iff.1 h
  have hr := ring_bd n b hi.1.2
  refine cB_iff.2 ⟨hi.1, ⟨by omega, by omega⟩, fun k hk => ?_⟩
  have hk : k < 2 := hk
  match k, hk with
  | 0, _ => exact (mx_bd n hi.1.2).1
  | 1, _ => exact hi.2.2 0 (by simp)

set_option maxHeartbeats 1000000 in
theorem powers_bad (n b k : Int) (w : World) (hT : Tab w) (b0 : 0 ≤ b) (b1 : b ≤ 4294967295) (h : cB n 0 [b] = false) :
    Calls Tryd.prog 6 #[.int .i64 n, .int .u32 b, .int .i64 k] w fun e w' => e = .returned (.bool true) ∧ Below w.heap.size w w' := by
  have h' : cB n k [b] = false := by
    rw [← Bool.not_eq_true]; intro c; rw [cB_zero c] at h; cases h
  have H := Lib.hid h; have H' := Lib.hid h'; clear h h'
  have HT := Lib.hid hT; clear hT
  go_enter Tryd.func6, Tryd.ntmps6
  go_wp2_with fail
  refine (Power_bad _ _ _ _ H'.out).mono ?_; rintro e w1 ⟨rfl, hb1⟩
  go_wp2_with fail
  refine (rPower_bad _ _ _ _ H'.out b0 b1).mono ?_; rintro e w2 ⟨rfl, hb2⟩
  have hb2 := hb1.trans (hb2.mono hb1.size); clear hb1
  go_wp2_with fail
  refine (Ring_bad _ _ _ H.out).mono ?_; rintro e w3 ⟨rfl, hb3⟩
  have hb3 := hb2.trans (hb3.mono hb2.size); clear hb2
  go_wp2_with fail
  refine (rRing_bad _ _ _ H.out b0 b1).mono ?_; rintro e w4 ⟨rfl, hb4⟩
  have hb4 := hb3.trans (hb4.mono hb3.size); clear hb3
  go_wp2_with fail
  refine (known_any _ (HT.out.below hb4)).mono ?_; rintro e w5 ⟨rfl, hb5⟩
  go_wp2_with fail
  go_ret
  exact ⟨rfl, hb4.trans (hb5.mono hb4.size)⟩

set_option maxHeartbeats 1000000 in
theorem powers_half (n b k : Int) (w : World) (hT : Tab w) (b0 : 0 ≤ b) (b1 : b ≤ 4294967295) (h : cB n 0 [b] = true) (v u : Int)
    (hP : ∀ w, Calls Tryd.prog 17 #[.int .i64 n, .int .u32 b, .int .i64 k] w fun e w' => e = .returned (.tuple #[.int .u32 v, .int .i64 u]) ∧ Below w.heap.size w w')
    (hQ : ∀ w, Calls Tryd.prog 18 #[.int .i64 n, .int .u32 b, .int .i64 k] w fun e w' => e = .returned (.tuple #[.int .u32 v, .int .i64 u]) ∧ Below w.heap.size w w') :
    Calls Tryd.prog 6 #[.int .i64 n, .int .u32 b, .int .i64 k] w fun e w' => e = .returned (.bool true) ∧ Below w.heap.size w w' := by
  have HP := Lib.hid hP; have HQ := Lib.hid hQ; clear hP hQ
  have HR := Lib.hid (powers_ring n b h)
  have hv : afterV n 0 b (ringV n b) = 0 := after_back n b (cB_iff.1 h).1.2 b0 ((cB_iff.1 h).2.2 0 (by simp))
  have HV := Lib.hid hv; clear hv
  have H := Lib.hid h; clear h
  have HT := Lib.hid hT; clear hT
  go_enter Tryd.func6, Tryd.ntmps6
  go_wp2_with fail
  refine (HP.out _).mono ?_; rintro e w1 ⟨rfl, hb1⟩
  go_wp2_with fail
  refine (HQ.out _).mono ?_; rintro e w2 ⟨rfl, hb2⟩
  have hb2 := hb1.trans (hb2.mono hb1.size); clear hb1
  go_wp2_with fail
  refine (Ring_ok _ _ _ H.out b0 b1 (HT.out.below hb2)).mono ?_; rintro e w3 ⟨rfl, hb3⟩
  have hb3 := hb2.trans (hb3.mono hb2.size); clear hb2
  go_wp2_with fail
  refine (rRing_ok _ _ _ H.out b0 b1).mono ?_; rintro e w4 ⟨rfl, hb4⟩
  have hb4 := hb3.trans (hb4.mono hb3.size); clear hb3
  go_wp2_with fail
  refine (After_ok n 0 b _ _ HR.out).mono ?_; rintro e w5 ⟨rfl, hb5⟩
  rw [HV.out]
  have hb5 := hb4.trans (hb5.mono hb4.size); clear hb4
  go_wp2_with fail
  refine (known_any _ (HT.out.below hb5)).mono ?_; rintro e w6 ⟨rfl, hb6⟩
  go_wp2_with fail
  go_ret
  exact ⟨rfl, hb5.trans (hb6.mono hb5.size)⟩
theorem powers_any (n b k : Int) (w : World) (hT : Tab w) (b0 : 0 ≤ b) (b1 : b ≤ 4294967295) :
    Calls Tryd.prog 6 #[.int .i64 n, .int .u32 b, .int .i64 k] w fun e w' => e = .returned (.bool true) ∧ Below w.heap.size w w' := by
  cases h : cB n 0 [b]
  · exact powers_bad n b k w hT b0 b1 h
  · cases h' : cB n k [b]
    · exact powers_half n b k w hT b0 b1 h _ _ (fun w => Power_bad n b k w h') (fun w => rPower_bad n b k w h' b0 b1)
    · exact powers_half n b k w hT b0 b1 h _ _ (fun w => Power_ok n b k w h' b0 b1) (fun w => rPower_ok n b k w h' b0 b1)
theorem sums_any (p n s t b k : Int) (w : World) (hT : Tab w) (hu : WordsU32 [s, t]) :
    Calls Tryd.prog 5 #[.agg #[.int .i64 p, .int .i64 n, .int .u32 s, .int .u32 t, .int .u32 b], .int .i64 k] w fun e w' => e = .returned (.bool true) ∧ Below w.heap.size w w' := by
  cases h : cB n k [s, t]
  · exact sums_bad p n s t b k w hT hu h
  · exact sums_ok p n s t b k w hT hu h
end Go.Proofs.YtodkfjdifchibaaDoor
