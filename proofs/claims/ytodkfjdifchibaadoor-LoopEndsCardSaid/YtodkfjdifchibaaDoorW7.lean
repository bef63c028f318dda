/- Walks of Trips, Counted, Goes, the document's Trips. -/
import Derived.Test.YtodkfjdifchibaaDoorW6
namespace Go.Proofs.YtodkfjdifchibaaDoor
open Go.RowKit

/-- What a count's arguments must be. -/
def cntB (p n s t b : Int) : Bool := cB n 0 [s, t, b] && (decide (0 ≤ p) && decide (p ≤ 9))
theorem cntB_iff {p n s t b : Int} : cntB p n s t b = true ↔ cB n 0 [s, t, b] = true ∧ 0 ≤ p ∧ p ≤ 9 := by simp [cntB]
theorem cB3 {n c s t b : Int} (h : cB n c [s, t, b] = true) : (1 ≤ n ∧ n ≤ 32) ∧ s < 2 ^ n.toNat ∧ t < 2 ^ n.toNat ∧ b < 2 ^ n.toNat := by
  have hi := cB_iff.1 h
  exact ⟨hi.1, mx_lt.1 (hi.2.2 0 (by simp)), mx_lt.1 (hi.2.2 1 (by simp)), mx_lt.1 (hi.2.2 2 (by simp))⟩

set_option maxHeartbeats 400000 in
theorem Trips_ok (p n s t b r : Int) (ok : Bool) (w : World) (h : cntB p n s t b = true) (s0 : 0 ≤ s) (t0 : 0 ≤ t) (b0 : 0 ≤ b) (hs : TripsSpec p n s t b r ok) :
    Calls Tryd.prog 8 #[.int .i64 p, .int .i64 n, .int .u32 s, .int .u32 t, .int .u32 b] w fun e w' => e = .returned (.tuple #[.int .i64 r, .bool ok, .int .i64 0]) ∧ Below w.heap.size w w' := by
  obtain ⟨hc, hp, hp9⟩ := cntB_iff.1 h
  obtain ⟨⟨h1, h2⟩, s1, t1, b1⟩ := cB3 hc
  have he := eI_t hc
  have HC := Lib.hid (fun w => trips_any p n s t b r ok w hp hp9 h1 h2 s0 s1 t0 t1 b0 b1 hs)
  cases ok
  · have hr : r = 0 := by
      rcases hs with ⟨c, _⟩ | ⟨_, h, _⟩
      · cases c
      · exact h
    subst hr
    clear hs hc h s1 t1 b1
    go_enter Tryd.func8, Tryd.ntmps8
    go_wp2_with (first | (go_at_call 20; refine (counted_any _ _ _ 3 [s, t, b] _ rfl (by omega) (reads3 _ _ _ _ _)).mono ?_; rintro e w' ⟨rfl, rfl⟩) | (go_at_call 21; refine (HC.out _).mono ?_; rintro e w1 ⟨rfl, hb⟩))
    go_ret3
    exact ⟨rfl, ((Below.refl _ _).alloc (Nat.le_refl _) _).trans (hb.mono (by simp))⟩
  · clear hs hc h s1 t1 b1
    go_enter Tryd.func8, Tryd.ntmps8
    go_wp2_with (first | (go_at_call 20; refine (counted_any _ _ _ 3 [s, t, b] _ rfl (by omega) (reads3 _ _ _ _ _)).mono ?_; rintro e w' ⟨rfl, rfl⟩) | (go_at_call 21; refine (HC.out _).mono ?_; rintro e w1 ⟨rfl, hb⟩))
    go_ret3
    exact ⟨rfl, ((Below.refl _ _).alloc (Nat.le_refl _) _).trans (hb.mono (by simp))⟩

set_option maxHeartbeats 400000 in
theorem Trips_bad (p n s t b : Int) (w : World) (h : cntB p n s t b = false) :
    Calls Tryd.prog 8 #[.int .i64 p, .int .i64 n, .int .u32 s, .int .u32 t, .int .u32 b] w fun e w' => e = .returned (.tuple #[.int .i64 0, .bool false, .int .i64 1]) ∧ Below w.heap.size w w' := by
  cases hc : cB n 0 [s, t, b]
  · have he := eI_f hc
    clear hc h
    go_enter Tryd.func8, Tryd.ntmps8
    go_wp2_with (first | (go_at_call 20; refine (counted_any _ _ _ 3 [s, t, b] _ rfl (by omega) (reads3 _ _ _ _ _)).mono ?_; rintro e w' ⟨rfl, rfl⟩))
    go_ret3
    exact ⟨rfl, (Below.refl _ _).alloc (Nat.le_refl _) _⟩
  · have he := eI_t hc
    have hp : p < 0 ∨ 9 < p := by
      rw [← Bool.not_eq_true, cntB_iff] at h
      have := not_and.1 h hc
      omega
    clear hc h
    rcases hp with hp | hp
    · go_enter Tryd.func8, Tryd.ntmps8
      go_wp2_with (first | (go_at_call 20; refine (counted_any _ _ _ 3 [s, t, b] _ rfl (by omega) (reads3 _ _ _ _ _)).mono ?_; rintro e w' ⟨rfl, rfl⟩))
      go_ret3
      exact ⟨rfl, (Below.refl _ _).alloc (Nat.le_refl _) _⟩
    · have hp0 : ¬ p < 0 := by omega
      go_enter Tryd.func8, Tryd.ntmps8
      go_wp2_with (first | (go_at_call 20; refine (counted_any _ _ _ 3 [s, t, b] _ rfl (by omega) (reads3 _ _ _ _ _)).mono ?_; rintro e w' ⟨rfl, rfl⟩))
      go_ret3
      exact ⟨rfl, (Below.refl _ _).alloc (Nat.le_refl _) _⟩

set_option maxHeartbeats 400000 in
theorem rCounted_any (p n s t b : Int) (w : World) (hu : WordsU32 [s, t, b]) :
    Calls Tryd.prog 10 #[.int .i64 p, .int .i64 n, .int .u32 s, .int .u32 t, .int .u32 b] w fun e w' => e = .returned (.int .i64 (eI (cntB p n s t b))) ∧ Below w.heap.size w w' := by
  have HU := Lib.hid hu; clear hu
  cases hc : cB n 0 [s, t, b]
  · have he := eI_f hc
    have hf : eI (cntB p n s t b) = 1 := eI_f (by unfold cntB; rw [hc]; rfl)
    rw [hf]
    clear hc hf
    go_enter Tryd.func10, Tryd.ntmps10
    go_wp2_with (first | (go_at_call 22; refine (worded_any _ _ _ 3 [s, t, b] _ rfl (by omega) (reads3 _ _ _ _ _) HU.out).mono ?_; rintro e w' ⟨rfl, rfl⟩))
    go_ret
    exact ⟨rfl, (Below.refl _ _).alloc (Nat.le_refl _) _⟩
  · have he := eI_t hc
    by_cases hp : p < 0 ∨ 9 < p
    · have hf : eI (cntB p n s t b) = 1 := eI_f (by rw [← Bool.not_eq_true, cntB_iff]; omega)
      rw [hf]
      clear hc hf
      rcases hp with hp | hp
      · go_enter Tryd.func10, Tryd.ntmps10
        go_wp2_with (first | (go_at_call 22; refine (worded_any _ _ _ 3 [s, t, b] _ rfl (by omega) (reads3 _ _ _ _ _) HU.out).mono ?_; rintro e w' ⟨rfl, rfl⟩))
        go_ret
        exact ⟨rfl, (Below.refl _ _).alloc (Nat.le_refl _) _⟩
      · have hp0 : ¬ p < 0 := by omega
        go_enter Tryd.func10, Tryd.ntmps10
        go_wp2_with (first | (go_at_call 22; refine (worded_any _ _ _ 3 [s, t, b] _ rfl (by omega) (reads3 _ _ _ _ _) HU.out).mono ?_; rintro e w' ⟨rfl, rfl⟩))
        go_ret
        exact ⟨rfl, (Below.refl _ _).alloc (Nat.le_refl _) _⟩
    · have hf : eI (cntB p n s t b) = 0 := eI_t (by rw [cntB_iff]; exact ⟨hc, by omega⟩)
      rw [hf]
      have hp0 : ¬ p < 0 := by omega
      have hp9 : p ≤ 9 := by omega
      clear hc hf hp
      go_enter Tryd.func10, Tryd.ntmps10
      go_wp2_with (first | (go_at_call 22; refine (worded_any _ _ _ 3 [s, t, b] _ rfl (by omega) (reads3 _ _ _ _ _) HU.out).mono ?_; rintro e w' ⟨rfl, rfl⟩))
      go_ret
      exact ⟨rfl, (Below.refl _ _).alloc (Nat.le_refl _) _⟩

theorem afterV_bd (n s t c : Int) (h2 : n ≤ 32) : 0 ≤ afterV n s t c ∧ afterV n s t c ≤ mx n := by
  have p := (pow_bd n h2).1
  have a := Int.emod_nonneg (s + c * t) (show (2 : Int) ^ n.toNat ≠ 0 by omega)
  have b := Int.emod_lt_of_pos (s + c * t) (show 0 < (2 : Int) ^ n.toNat by omega)
  unfold afterV mx; omega

set_option maxHeartbeats 400000 in
theorem rGoes_any (p n s t b c : Int) (w : World) (h : cntB p n s t b = true) (hu : WordsU32 [s, t, b]) (c0 : 0 ≤ c) (c1 : c ≤ 4294967296) :
    Calls Tryd.prog 12 #[.int .i64 p, .int .i64 n, .int .u32 s, .int .u32 t, .int .u32 b, .int .i64 c] w fun e w' => e = .returned (.bool (goesB p n s t b c)) ∧ Below w.heap.size w w' := by
  obtain ⟨hc, hp, hp9⟩ := cntB_iff.1 h
  have hi := cB_iff.1 hc
  have hb1 : b ≤ mx n := hi.2.2 2 (by simp)
  have h2 := hi.1.2
  have hb0 := (hu 2 (by simp)).1
  have hw := isW_iff.2 hi.1
  have hc2 : cB n c [s, t] = true := cB_iff.2 ⟨hi.1, ⟨c0, c1⟩, fun k hk => by
    have hk : k < 2 := hk
    match k, hk with
    | 0, _ => exact hi.2.2 0 (by simp)
    | 1, _ => exact hi.2.2 1 (by simp)⟩
  have hu2 : WordsU32 [s, t] := words2 (hu 0 (by simp)).1 (hu 0 (by simp)).2 (hu 1 (by simp)).1 (hu 1 (by simp)).2
  obtain ⟨v0, v1⟩ := afterV_bd n s t c h2
  have hB0 : 0 ≤ b := hb0
  unfold goesB
  have HA := Lib.hid (fun w => rAfter_ok n s t c w hc2 hu2)
  have HB := Lib.hid (fun w => rCompare_ok p n (afterV n s t c) b w hp hp9 hw v0 v1 hB0 hb1)
  clear hc hi hc2 hu2 hu h
  generalize afterV n s t c = v at *
  go_enter Tryd.func12, Tryd.ntmps12
  go_wp2_with (first | (go_at_call 14; refine (HA.out _).mono ?_; rintro e w1 ⟨rfl, hb⟩) | (go_at_call 24; refine (HB.out _).mono ?_; rintro e w' ⟨rfl, rfl⟩))
  go_ret
  exact ⟨rfl, hb⟩
end Go.Proofs.YtodkfjdifchibaaDoor
