/- The law's walk: a count of any width ends after the steps told, and not before. -/
import Derived.Test.YtodkfjdifchibaaDoorL3
namespace Go.Proofs.YtodkfjdifchibaaDoor
open Go.RowKit

set_option maxRecDepth 100000 in
set_option maxHeartbeats 1000000 in
theorem ends_bad (p n s t b k : Int) (w : World) (hT : Tab w) (hu : WordsU32 [s, t, b]) (h : cntB p n s t b = false) :
    Calls Tryd.prog 4 #[.agg #[.int .i64 p, .int .i64 n, .int .u32 s, .int .u32 t, .int .u32 b], .int .i64 k] w fun e w' => e = .returned (.bool true) ∧ Below w.heap.size w w' := by
  have he := eI_f h
  have H := Lib.hid h; have HU := Lib.hid hu; clear h hu
  have HT := Lib.hid (hT.below ((Below.refl _ w).alloc (Nat.le_refl _) (.cells #[.int .i64 p, .int .i64 n, .int .u32 s, .int .u32 t, .int .u32 b] 24))); clear hT
  go_enter Tryd.func4, Tryd.ntmps4
  go_wp2_with fail
  refine (Trips_bad _ _ _ _ _ _ H.out).mono ?_; rintro e w1 ⟨rfl, hb1⟩
  have hc1 := bc hb1 (b := w.heap.size) (by simp)
  go_wp2_with fail
  refine (rCounted_any _ _ _ _ _ _ HU.out).mono ?_; rintro e w2 ⟨rfl, hb2⟩
  have hb2 := hb1.trans (hb2.mono hb1.size); clear hb1 hc1
  go_wp2_with fail
  refine (known_any _ (HT.out.below hb2)).mono ?_; rintro e w5 ⟨rfl, hb5⟩
  go_wp2_with fail
  go_ret
  exact ⟨rfl, ((Below.refl _ _).alloc (Nat.le_refl _) _).trans ((hb2.trans (hb5.mono hb2.size)).mono (by simp))⟩

theorem trips_lt_ring {p n s t b r : Int} (hs : TripsSpec p n s t b r true) (h2 : n ≤ 32) (t0 : 0 ≤ t) (t1 : t ≤ mx n) : 0 ≤ r ∧ r < ringV n t ∧ goesB p n s t b r = false ∧ ∀ k, 0 ≤ k → k < r → goesB p n s t b k = true := by
  rcases hs with ⟨_, h0, h1, h2', h3⟩ | ⟨c, _⟩
  · obtain ⟨j, j1, j2⟩ := goes_ring p n s t b r h2 t0 t1 h0
    have := h3 j (by omega) (by rw [j2]; exact h2')
    refine ⟨h0, by omega, h2', fun k k0 kr => ?_⟩
    rw [← Bool.not_eq_false]
    intro c
    have := h3 k k0 c
    omega
  · cases c

set_option maxRecDepth 100000 in
set_option maxHeartbeats 1000000 in
theorem ends_zero (p n s t b k : Int) (w : World) (hT : Tab w) (hu : WordsU32 [s, t, b]) (h : cntB p n s t b = true) (hs : TripsSpec p n s t b 0 true) :
    Calls Tryd.prog 4 #[.agg #[.int .i64 p, .int .i64 n, .int .u32 s, .int .u32 t, .int .u32 b], .int .i64 k] w fun e w' => e = .returned (.bool true) ∧ Below w.heap.size w w' := by
  have he := eI_t h
  obtain ⟨hc, _, _⟩ := cntB_iff.1 h
  have hi := cB_iff.1 hc
  have h2 := hi.1.2
  have s0 := (hu 0 (by simp)).1; have t0 := (hu 1 (by simp)).1; have b0 := (hu 2 (by simp)).1; have tm := (hu 1 (by simp)).2
  change 0 ≤ t at t0; change t ≤ 4294967295 at tm
  have t1 : t ≤ mx n := hi.2.2 1 (by simp)
  have hg := (trips_lt_ring hs h2 t0 t1).2.2.1
  have hr := (trips_lt_ring hs h2 t0 t1).2.1
  have hrb := (ring_bd n t h2).2
  have HA := Lib.hid (fun w => Trips_ok p n s t b 0 true w h s0 t0 b0 hs)
  have hc1 : cB n 0 [t] = true := cB_iff.2 ⟨hi.1, hi.2.1, fun k hk => by
    have hk : k < 1 := hk
    obtain rfl : k = 0 := by omega
    exact t1⟩
  have HR := Lib.hid (fun w hT => Ring_ok n t w hc1 t0 tm hT)
  have HG := Lib.hid (fun w => rGoes_any p n s t b 0 w h hu (by omega) (by omega))
  have Hg := Lib.hid hg
  have HU := Lib.hid hu
  clear h hu hs hc hi hc1 t1 hg
  have HT := Lib.hid (hT.below ((Below.refl _ w).alloc (Nat.le_refl _) (.cells #[.int .i64 p, .int .i64 n, .int .u32 s, .int .u32 t, .int .u32 b] 24))); clear hT
  generalize ringV n t = R at *
  go_enter Tryd.func4, Tryd.ntmps4
  go_wp2_with fail
  refine (HA.out _).mono ?_; rintro e w1 ⟨rfl, hb1⟩
  have hc1 := bc hb1 (b := w.heap.size) (by simp)
  go_wp2_with fail
  refine (rCounted_any _ _ _ _ _ _ HU.out).mono ?_; rintro e w2 ⟨rfl, hb2⟩
  have hb2 := hb1.trans (hb2.mono hb1.size); clear hb1 hc1
  have hc2 := bc hb2 (b := w.heap.size) (by simp)
  go_wp2_with fail
  refine (HR.out _ (HT.out.below hb2)).mono ?_; rintro e w3 ⟨rfl, hb3⟩
  have hb3 := hb2.trans (hb3.mono hb2.size); clear hb2 hc2
  have hc3 := bc hb3 (b := w.heap.size) (by simp)
  go_wp2_with fail
  refine (HG.out _).mono ?_; rintro e w4 ⟨rfl, hb4⟩
  rw [Hg.out]
  have hb4 := hb3.trans (hb4.mono hb3.size); clear hb3 hc3
  go_wp2_with fail
  refine (known_any _ (HT.out.below hb4)).mono ?_; rintro e w5 ⟨rfl, hb5⟩
  go_wp2_with fail
  go_ret
  exact ⟨rfl, ((Below.refl _ _).alloc (Nat.le_refl _) _).trans ((hb4.trans (hb5.mono hb4.size)).mono (by simp))⟩
end Go.Proofs.YtodkfjdifchibaaDoor
