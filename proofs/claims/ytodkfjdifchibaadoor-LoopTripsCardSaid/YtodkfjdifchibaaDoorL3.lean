/- The law's walk: after how many steps a count of few bits ends. -/
import Derived.Test.YtodkfjdifchibaaDoorL2
namespace Go.Proofs.YtodkfjdifchibaaDoor
open Go.RowKit

set_option maxHeartbeats 1000000 in
theorem lawTrips_known (p n s t b : Int) (w : World) (hT : Tab w) (h9 : 9 < n) (h32 : n ≤ 32) :
    Calls Tryd.prog 3 #[.agg #[.int .i64 p, .int .i64 n, .int .u32 s, .int .u32 t, .int .u32 b]] w fun e w' => e = .returned (.bool true) ∧ Below w.heap.size w w' := by
  have HT := Lib.hid (hT.below ((Below.refl _ w).alloc (Nat.le_refl _) (.cells #[.int .i64 p, .int .i64 n, .int .u32 s, .int .u32 t, .int .u32 b] 24))); clear hT
  go_enter Tryd.func3, Tryd.ntmps3
  go_wp2_with fail
  refine (known_any _ HT.out).mono ?_; rintro e w5 ⟨rfl, hb5⟩
  go_wp2_with fail
  go_ret
  exact ⟨rfl, ((Below.refl _ _).alloc (Nat.le_refl _) _).trans (hb5.mono (by simp))⟩
set_option maxHeartbeats 1000000 in
theorem lawTrips_cmp (p n s t b : Int) (w : World) (hT : Tab w) (h9 : n ≤ 9 ∨ 32 < n) (r : Int) (ok : Bool) (e0 : Int)
    (hA : ∀ w, Calls Tryd.prog 8 #[.int .i64 p, .int .i64 n, .int .u32 s, .int .u32 t, .int .u32 b] w fun e w' => e = .returned (.tuple #[.int .i64 r, .bool ok, .int .i64 e0]) ∧ Below w.heap.size w w')
    (hB : ∀ w, Calls Tryd.prog 9 #[.int .i64 p, .int .i64 n, .int .u32 s, .int .u32 t, .int .u32 b] w fun e w' => e = .returned (.tuple #[.int .i64 r, .bool ok, .int .i64 e0]) ∧ Below w.heap.size w w') :
    Calls Tryd.prog 3 #[.agg #[.int .i64 p, .int .i64 n, .int .u32 s, .int .u32 t, .int .u32 b]] w fun e w' => e = .returned (.bool true) ∧ Below w.heap.size w w' := by
  have HA := Lib.hid hA; have HB := Lib.hid hB; clear hA hB
  have HT := Lib.hid (hT.below ((Below.refl _ w).alloc (Nat.le_refl _) (.cells #[.int .i64 p, .int .i64 n, .int .u32 s, .int .u32 t, .int .u32 b] 24))); clear hT
  by_cases hn : n ≤ 9
  all_goals
    first | (have hn' : ¬ 9 < n := by omega) | (have hn' : 32 < n := by omega)
    clear h9
    go_enter Tryd.func3, Tryd.ntmps3
    go_wp2_with fail
    refine (HA.out _).mono ?_; rintro e w1 ⟨rfl, hb1⟩
    have hc1 := bc hb1 (b := w.heap.size) (by simp)
    go_wp2_with fail
    refine (HB.out _).mono ?_; rintro e w2 ⟨rfl, hb2⟩
    have hb2 := hb1.trans (hb2.mono hb1.size); clear hb1 hc1
    go_wp2_with fail
    refine (known_any _ (HT.out.below hb2)).mono ?_; rintro e w5 ⟨rfl, hb5⟩
    go_wp2_with fail
    go_ret
    exact ⟨rfl, ((Below.refl _ _).alloc (Nat.le_refl _) _).trans ((hb2.trans (hb5.mono hb2.size)).mono (by simp))⟩
theorem lawTrips_any (p n s t b : Int) (w : World) (hT : Tab w) (hu : WordsU32 [s, t, b]) :
    Calls Tryd.prog 3 #[.agg #[.int .i64 p, .int .i64 n, .int .u32 s, .int .u32 t, .int .u32 b]] w fun e w' => e = .returned (.bool true) ∧ Below w.heap.size w w' := by
  by_cases h9 : 9 < n ∧ n ≤ 32
  · exact lawTrips_known p n s t b w hT h9.1 h9.2
  · cases h : cntB p n s t b
    · exact lawTrips_cmp p n s t b w hT (by omega) _ _ _ (fun w => Trips_bad p n s t b w h) (fun w => rTrips_bad p n s t b w h hu)
    · obtain ⟨hc, _, _⟩ := cntB_iff.1 h
      have hi := cB_iff.1 hc
      have s0 := (hu 0 (by simp)).1; have t0 := (hu 1 (by simp)).1; have b0 := (hu 2 (by simp)).1
      obtain ⟨r, ok, hs⟩ := trips_exists p n s t b hi.1.2 t0 (hi.2.2 1 (by simp))
      exact lawTrips_cmp p n s t b w hT (by omega) r ok 0 (fun w => Trips_ok p n s t b r ok w h s0 t0 b0 hs) (fun w => rTrips_ok p n s t b r ok w h hu hs)
end Go.Proofs.YtodkfjdifchibaaDoor
