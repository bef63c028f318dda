/- The walks of within and isPlace. -/
import Derived.Test.YtmhneonebjcieaaD
namespace Go.Proofs.Ytmhneonebjcieaa
open Go.RowKit

theorem within_any (n lo hi : Int) (w : World) : Calls Try.prog 42 #[.int .i64 n, .int .i64 lo, .int .i64 hi] w fun e w' => e = .returned (.bool (within n lo hi)) ∧ w = w' := by
  unfold within
  by_cases h1 : lo ≤ n
  · by_cases h2 : n ≤ hi
    all_goals
      rw [decide_eq_true h1]
      go_enter Try.func42, Try.ntmps42
      go_wp2_with fail
      go_ret
      exact ⟨ret_bool (by simp [h2]), rfl⟩
  · rw [decide_eq_false h1]
    go_enter Try.func42, Try.ntmps42
    go_wp2_with fail
    go_ret
    exact ⟨rfl, rfl⟩
theorem within_is {b : Bool} {n lo hi : Int} (h : within n lo hi = b) (w : World) : Calls Try.prog 42 #[.int .i64 n, .int .i64 lo, .int .i64 hi] w fun e w' => e = .returned (.bool b) ∧ w = w' := by
  rw [← h]; exact within_any n lo hi w
theorem within_eq {b : Bool} {n lo hi : Int} (h : within n lo hi = b) (w : World) : Calls Try.prog 42 #[.int .i64 n, .int .i64 lo, .int .i64 hi] w fun e w' => e = .returned (.bool b) ∧ w' = w :=
  (within_is h w).mono fun _ _ h => ⟨h.1, h.2.symm⟩
theorem rwithin_any (n lo hi : Int) (w : World) : Calls Try.prog 43 #[.int .i64 n, .int .i64 lo, .int .i64 hi] w fun e w' => e = .returned (.bool (within n lo hi)) ∧ w = w' := by
  unfold within
  by_cases h1 : lo ≤ n
  · by_cases h2 : n ≤ hi
    all_goals
      rw [decide_eq_true h1]
      go_enter Try.func43, Try.ntmps43
      go_wp2_with fail
      go_ret
      exact ⟨ret_bool (by simp [h2]), rfl⟩
  · rw [decide_eq_false h1]
    go_enter Try.func43, Try.ntmps43
    go_wp2_with fail
    go_ret
    exact ⟨rfl, rfl⟩
theorem rwithin_is {b : Bool} {n lo hi : Int} (h : within n lo hi = b) (w : World) : Calls Try.prog 43 #[.int .i64 n, .int .i64 lo, .int .i64 hi] w fun e w' => e = .returned (.bool b) ∧ w = w' := by
  rw [← h]; exact rwithin_any n lo hi w
theorem rwithin_eq {b : Bool} {n lo hi : Int} (h : within n lo hi = b) (w : World) : Calls Try.prog 43 #[.int .i64 n, .int .i64 lo, .int .i64 hi] w fun e w' => e = .returned (.bool b) ∧ w' = w :=
  (rwithin_is h w).mono fun _ _ h => ⟨h.1, h.2.symm⟩

theorem within_yes {n lo hi : Int} (h1 : lo ≤ n) (h2 : n ≤ hi) : within n lo hi = true := by unfold within; rw [decide_eq_true h1, decide_eq_true h2]; rfl
theorem within_no {n lo hi : Int} (h : ¬ (lo ≤ n ∧ n ≤ hi)) : within n lo hi = false := by
  unfold within
  cases h1 : decide (lo ≤ n)
  · rfl
  · have h1 := of_decide_eq_true h1
    rw [decide_eq_false fun h2 => h ⟨h1, h2⟩]; rfl

set_option maxRecDepth 100000 in
set_option maxHeartbeats 2000000 in
theorem isPlace_a (x0 x1 x2 x3 x4 : Int) (w : World) (h0 : ¬ 0 ≤ x0) :
    Calls Try.prog 50 #[.agg #[.int .i64 x0, .int .i64 x1, .int .i64 x2, .int .i64 x3, .int .i64 x4]] w fun e w' => e = .returned (.bool false) ∧ Below w.heap.size w w' := by
  have hb0 : Below w.heap.size w ((w.alloc (.cells #[.int .i64 x0, .int .i64 x1, .int .i64 x2, .int .i64 x3, .int .i64 x4] 38)).alloc (.cells #[.int .i64 31, .int .i64 32764, .int .i64 4294967295] 3)) := ((Below.refl _ _).alloc (Nat.le_refl _) _).alloc (by simp) _
  have c0 : ((w.alloc (.cells #[.int .i64 x0, .int .i64 x1, .int .i64 x2, .int .i64 x3, .int .i64 x4] 38)).alloc (.cells #[.int .i64 31, .int .i64 32764, .int .i64 4294967295] 3)).cell? ⟨w.heap.size, 0, none⟩ = some (.int .i64 x0) := by simp [go_sem]
  have c1 : ((w.alloc (.cells #[.int .i64 x0, .int .i64 x1, .int .i64 x2, .int .i64 x3, .int .i64 x4] 38)).alloc (.cells #[.int .i64 31, .int .i64 32764, .int .i64 4294967295] 3)).cell? ⟨w.heap.size, 1, none⟩ = some (.int .i64 x1) := by simp [go_sem]
  have c2 : ((w.alloc (.cells #[.int .i64 x0, .int .i64 x1, .int .i64 x2, .int .i64 x3, .int .i64 x4] 38)).alloc (.cells #[.int .i64 31, .int .i64 32764, .int .i64 4294967295] 3)).cell? ⟨w.heap.size, 2, none⟩ = some (.int .i64 x2) := by simp [go_sem]
  have c3 : ((w.alloc (.cells #[.int .i64 x0, .int .i64 x1, .int .i64 x2, .int .i64 x3, .int .i64 x4] 38)).alloc (.cells #[.int .i64 31, .int .i64 32764, .int .i64 4294967295] 3)).cell? ⟨w.heap.size, 3, none⟩ = some (.int .i64 x3) := by simp [go_sem]
  have c4 : ((w.alloc (.cells #[.int .i64 x0, .int .i64 x1, .int .i64 x2, .int .i64 x3, .int .i64 x4] 38)).alloc (.cells #[.int .i64 31, .int .i64 32764, .int .i64 4294967295] 3)).cell? ⟨w.heap.size, 4, none⟩ = some (.int .i64 x4) := by simp [go_sem]
  have d0 : decide (0 ≤ x0) = false := decide_eq_false h0
  have HB0 := Lib.hid hb0
  clear hb0
  go_enter Try.func50, Try.ntmps50
  go_wp2_with fail
  generalize (w.alloc (.cells #[.int .i64 x0, .int .i64 x1, .int .i64 x2, .int .i64 x3, .int .i64 x4] 38)).alloc (.cells #[.int .i64 31, .int .i64 32764, .int .i64 4294967295] 3) = w0 at *
  generalize hq : w.heap.size = q0 at *
  have HQ := Lib.hid hq; clear hq
  go_quiet ((go_at_call 42; exact Calls.quiet_of_same (within_eq (by assumption) _)))
  go_wp2_with fail
  go_ret
  exact ⟨rfl, by rw [HQ.out]; exact below_drewN HB0.out _⟩
set_option maxRecDepth 100000 in
set_option maxHeartbeats 2000000 in
theorem isPlace_b (x0 x1 x2 x3 x4 : Int) (w : World) (h0 : 0 ≤ x0) (h1 : ¬ x0 < x1) :
    Calls Try.prog 50 #[.agg #[.int .i64 x0, .int .i64 x1, .int .i64 x2, .int .i64 x3, .int .i64 x4]] w fun e w' => e = .returned (.bool false) ∧ Below w.heap.size w w' := by
  have hb0 : Below w.heap.size w ((w.alloc (.cells #[.int .i64 x0, .int .i64 x1, .int .i64 x2, .int .i64 x3, .int .i64 x4] 38)).alloc (.cells #[.int .i64 31, .int .i64 32764, .int .i64 4294967295] 3)) := ((Below.refl _ _).alloc (Nat.le_refl _) _).alloc (by simp) _
  have c0 : ((w.alloc (.cells #[.int .i64 x0, .int .i64 x1, .int .i64 x2, .int .i64 x3, .int .i64 x4] 38)).alloc (.cells #[.int .i64 31, .int .i64 32764, .int .i64 4294967295] 3)).cell? ⟨w.heap.size, 0, none⟩ = some (.int .i64 x0) := by simp [go_sem]
  have c1 : ((w.alloc (.cells #[.int .i64 x0, .int .i64 x1, .int .i64 x2, .int .i64 x3, .int .i64 x4] 38)).alloc (.cells #[.int .i64 31, .int .i64 32764, .int .i64 4294967295] 3)).cell? ⟨w.heap.size, 1, none⟩ = some (.int .i64 x1) := by simp [go_sem]
  have c2 : ((w.alloc (.cells #[.int .i64 x0, .int .i64 x1, .int .i64 x2, .int .i64 x3, .int .i64 x4] 38)).alloc (.cells #[.int .i64 31, .int .i64 32764, .int .i64 4294967295] 3)).cell? ⟨w.heap.size, 2, none⟩ = some (.int .i64 x2) := by simp [go_sem]
  have c3 : ((w.alloc (.cells #[.int .i64 x0, .int .i64 x1, .int .i64 x2, .int .i64 x3, .int .i64 x4] 38)).alloc (.cells #[.int .i64 31, .int .i64 32764, .int .i64 4294967295] 3)).cell? ⟨w.heap.size, 3, none⟩ = some (.int .i64 x3) := by simp [go_sem]
  have c4 : ((w.alloc (.cells #[.int .i64 x0, .int .i64 x1, .int .i64 x2, .int .i64 x3, .int .i64 x4] 38)).alloc (.cells #[.int .i64 31, .int .i64 32764, .int .i64 4294967295] 3)).cell? ⟨w.heap.size, 4, none⟩ = some (.int .i64 x4) := by simp [go_sem]
  have d0 : decide (0 ≤ x0) = true := decide_eq_true h0
  have d1 : decide (x0 < x1) = false := decide_eq_false h1
  have HB0 := Lib.hid hb0
  clear hb0
  go_enter Try.func50, Try.ntmps50
  go_wp2_with fail
  generalize (w.alloc (.cells #[.int .i64 x0, .int .i64 x1, .int .i64 x2, .int .i64 x3, .int .i64 x4] 38)).alloc (.cells #[.int .i64 31, .int .i64 32764, .int .i64 4294967295] 3) = w0 at *
  generalize hq : w.heap.size = q0 at *
  have HQ := Lib.hid hq; clear hq
  go_quiet ((go_at_call 42; exact Calls.quiet_of_same (within_eq (by assumption) _)))
  go_wp2_with fail
  go_ret
  exact ⟨rfl, by rw [HQ.out]; exact below_drewN HB0.out _⟩
set_option maxRecDepth 100000 in
set_option maxHeartbeats 2000000 in
theorem isPlace_c (x0 x1 x2 x3 x4 : Int) (w : World) (h0 : 0 ≤ x0) (h1 : x0 < x1) (h2 : ¬ x1 ≤ 32768) :
    Calls Try.prog 50 #[.agg #[.int .i64 x0, .int .i64 x1, .int .i64 x2, .int .i64 x3, .int .i64 x4]] w fun e w' => e = .returned (.bool false) ∧ Below w.heap.size w w' := by
  have hb0 : Below w.heap.size w ((w.alloc (.cells #[.int .i64 x0, .int .i64 x1, .int .i64 x2, .int .i64 x3, .int .i64 x4] 38)).alloc (.cells #[.int .i64 31, .int .i64 32764, .int .i64 4294967295] 3)) := ((Below.refl _ _).alloc (Nat.le_refl _) _).alloc (by simp) _
  have c0 : ((w.alloc (.cells #[.int .i64 x0, .int .i64 x1, .int .i64 x2, .int .i64 x3, .int .i64 x4] 38)).alloc (.cells #[.int .i64 31, .int .i64 32764, .int .i64 4294967295] 3)).cell? ⟨w.heap.size, 0, none⟩ = some (.int .i64 x0) := by simp [go_sem]
  have c1 : ((w.alloc (.cells #[.int .i64 x0, .int .i64 x1, .int .i64 x2, .int .i64 x3, .int .i64 x4] 38)).alloc (.cells #[.int .i64 31, .int .i64 32764, .int .i64 4294967295] 3)).cell? ⟨w.heap.size, 1, none⟩ = some (.int .i64 x1) := by simp [go_sem]
  have c2 : ((w.alloc (.cells #[.int .i64 x0, .int .i64 x1, .int .i64 x2, .int .i64 x3, .int .i64 x4] 38)).alloc (.cells #[.int .i64 31, .int .i64 32764, .int .i64 4294967295] 3)).cell? ⟨w.heap.size, 2, none⟩ = some (.int .i64 x2) := by simp [go_sem]
  have c3 : ((w.alloc (.cells #[.int .i64 x0, .int .i64 x1, .int .i64 x2, .int .i64 x3, .int .i64 x4] 38)).alloc (.cells #[.int .i64 31, .int .i64 32764, .int .i64 4294967295] 3)).cell? ⟨w.heap.size, 3, none⟩ = some (.int .i64 x3) := by simp [go_sem]
  have c4 : ((w.alloc (.cells #[.int .i64 x0, .int .i64 x1, .int .i64 x2, .int .i64 x3, .int .i64 x4] 38)).alloc (.cells #[.int .i64 31, .int .i64 32764, .int .i64 4294967295] 3)).cell? ⟨w.heap.size, 4, none⟩ = some (.int .i64 x4) := by simp [go_sem]
  have d0 : decide (0 ≤ x0) = true := decide_eq_true h0
  have d1 : decide (x0 < x1) = true := decide_eq_true h1
  have d2 : decide (x1 ≤ 32768) = false := decide_eq_false h2
  have HB0 := Lib.hid hb0
  clear hb0
  go_enter Try.func50, Try.ntmps50
  go_wp2_with fail
  generalize (w.alloc (.cells #[.int .i64 x0, .int .i64 x1, .int .i64 x2, .int .i64 x3, .int .i64 x4] 38)).alloc (.cells #[.int .i64 31, .int .i64 32764, .int .i64 4294967295] 3) = w0 at *
  generalize hq : w.heap.size = q0 at *
  have HQ := Lib.hid hq; clear hq
  go_quiet ((go_at_call 42; exact Calls.quiet_of_same (within_eq (by assumption) _)))
  go_wp2_with fail
  go_ret
  exact ⟨rfl, by rw [HQ.out]; exact below_drewN HB0.out _⟩
set_option maxRecDepth 100000 in
set_option maxHeartbeats 2000000 in
theorem isPlace_d (x0 x1 x2 x3 x4 : Int) (w : World) (h0 : 0 ≤ x0) (h1 : x0 < x1) (h2 : x1 ≤ 32768) (h3 : within x2 0 63 = false) :
    Calls Try.prog 50 #[.agg #[.int .i64 x0, .int .i64 x1, .int .i64 x2, .int .i64 x3, .int .i64 x4]] w fun e w' => e = .returned (.bool false) ∧ Below w.heap.size w w' := by
  have hb0 : Below w.heap.size w ((w.alloc (.cells #[.int .i64 x0, .int .i64 x1, .int .i64 x2, .int .i64 x3, .int .i64 x4] 38)).alloc (.cells #[.int .i64 31, .int .i64 32764, .int .i64 4294967295] 3)) := ((Below.refl _ _).alloc (Nat.le_refl _) _).alloc (by simp) _
  have c0 : ((w.alloc (.cells #[.int .i64 x0, .int .i64 x1, .int .i64 x2, .int .i64 x3, .int .i64 x4] 38)).alloc (.cells #[.int .i64 31, .int .i64 32764, .int .i64 4294967295] 3)).cell? ⟨w.heap.size, 0, none⟩ = some (.int .i64 x0) := by simp [go_sem]
  have c1 : ((w.alloc (.cells #[.int .i64 x0, .int .i64 x1, .int .i64 x2, .int .i64 x3, .int .i64 x4] 38)).alloc (.cells #[.int .i64 31, .int .i64 32764, .int .i64 4294967295] 3)).cell? ⟨w.heap.size, 1, none⟩ = some (.int .i64 x1) := by simp [go_sem]
  have c2 : ((w.alloc (.cells #[.int .i64 x0, .int .i64 x1, .int .i64 x2, .int .i64 x3, .int .i64 x4] 38)).alloc (.cells #[.int .i64 31, .int .i64 32764, .int .i64 4294967295] 3)).cell? ⟨w.heap.size, 2, none⟩ = some (.int .i64 x2) := by simp [go_sem]
  have c3 : ((w.alloc (.cells #[.int .i64 x0, .int .i64 x1, .int .i64 x2, .int .i64 x3, .int .i64 x4] 38)).alloc (.cells #[.int .i64 31, .int .i64 32764, .int .i64 4294967295] 3)).cell? ⟨w.heap.size, 3, none⟩ = some (.int .i64 x3) := by simp [go_sem]
  have c4 : ((w.alloc (.cells #[.int .i64 x0, .int .i64 x1, .int .i64 x2, .int .i64 x3, .int .i64 x4] 38)).alloc (.cells #[.int .i64 31, .int .i64 32764, .int .i64 4294967295] 3)).cell? ⟨w.heap.size, 4, none⟩ = some (.int .i64 x4) := by simp [go_sem]
  have d0 : decide (0 ≤ x0) = true := decide_eq_true h0
  have d1 : decide (x0 < x1) = true := decide_eq_true h1
  have d2 : decide (x1 ≤ 32768) = true := decide_eq_true h2
  have HB0 := Lib.hid hb0
  clear hb0
  go_enter Try.func50, Try.ntmps50
  go_wp2_with fail
  generalize (w.alloc (.cells #[.int .i64 x0, .int .i64 x1, .int .i64 x2, .int .i64 x3, .int .i64 x4] 38)).alloc (.cells #[.int .i64 31, .int .i64 32764, .int .i64 4294967295] 3) = w0 at *
  generalize hq : w.heap.size = q0 at *
  have HQ := Lib.hid hq; clear hq
  go_quiet ((go_at_call 42; exact Calls.quiet_of_same (within_eq (by assumption) _)))
  go_wp2_with fail
  go_ret
  exact ⟨rfl, by rw [HQ.out]; exact below_drewN HB0.out _⟩
set_option maxRecDepth 100000 in
set_option maxHeartbeats 2000000 in
theorem isPlace_e (x0 x1 x2 x3 x4 : Int) (w : World) (h0 : 0 ≤ x0) (h1 : x0 < x1) (h2 : x1 ≤ 32768) (h3 : within x2 0 63 = true) (h4 : within x3 0 2 = false) :
    Calls Try.prog 50 #[.agg #[.int .i64 x0, .int .i64 x1, .int .i64 x2, .int .i64 x3, .int .i64 x4]] w fun e w' => e = .returned (.bool false) ∧ Below w.heap.size w w' := by
  have hb0 : Below w.heap.size w ((w.alloc (.cells #[.int .i64 x0, .int .i64 x1, .int .i64 x2, .int .i64 x3, .int .i64 x4] 38)).alloc (.cells #[.int .i64 31, .int .i64 32764, .int .i64 4294967295] 3)) := ((Below.refl _ _).alloc (Nat.le_refl _) _).alloc (by simp) _
  have c0 : ((w.alloc (.cells #[.int .i64 x0, .int .i64 x1, .int .i64 x2, .int .i64 x3, .int .i64 x4] 38)).alloc (.cells #[.int .i64 31, .int .i64 32764, .int .i64 4294967295] 3)).cell? ⟨w.heap.size, 0, none⟩ = some (.int .i64 x0) := by simp [go_sem]
  have c1 : ((w.alloc (.cells #[.int .i64 x0, .int .i64 x1, .int .i64 x2, .int .i64 x3, .int .i64 x4] 38)).alloc (.cells #[.int .i64 31, .int .i64 32764, .int .i64 4294967295] 3)).cell? ⟨w.heap.size, 1, none⟩ = some (.int .i64 x1) := by simp [go_sem]
  have c2 : ((w.alloc (.cells #[.int .i64 x0, .int .i64 x1, .int .i64 x2, .int .i64 x3, .int .i64 x4] 38)).alloc (.cells #[.int .i64 31, .int .i64 32764, .int .i64 4294967295] 3)).cell? ⟨w.heap.size, 2, none⟩ = some (.int .i64 x2) := by simp [go_sem]
  have c3 : ((w.alloc (.cells #[.int .i64 x0, .int .i64 x1, .int .i64 x2, .int .i64 x3, .int .i64 x4] 38)).alloc (.cells #[.int .i64 31, .int .i64 32764, .int .i64 4294967295] 3)).cell? ⟨w.heap.size, 3, none⟩ = some (.int .i64 x3) := by simp [go_sem]
  have c4 : ((w.alloc (.cells #[.int .i64 x0, .int .i64 x1, .int .i64 x2, .int .i64 x3, .int .i64 x4] 38)).alloc (.cells #[.int .i64 31, .int .i64 32764, .int .i64 4294967295] 3)).cell? ⟨w.heap.size, 4, none⟩ = some (.int .i64 x4) := by simp [go_sem]
  have d0 : decide (0 ≤ x0) = true := decide_eq_true h0
  have d1 : decide (x0 < x1) = true := decide_eq_true h1
  have d2 : decide (x1 ≤ 32768) = true := decide_eq_true h2
  have HB0 := Lib.hid hb0
  clear hb0
  go_enter Try.func50, Try.ntmps50
  go_wp2_with fail
  generalize (w.alloc (.cells #[.int .i64 x0, .int .i64 x1, .int .i64 x2, .int .i64 x3, .int .i64 x4] 38)).alloc (.cells #[.int .i64 31, .int .i64 32764, .int .i64 4294967295] 3) = w0 at *
  generalize hq : w.heap.size = q0 at *
  have HQ := Lib.hid hq; clear hq
  go_quiet ((go_at_call 42; exact Calls.quiet_of_same (within_eq (by assumption) _)))
  go_wp2_with fail
  go_ret
  exact ⟨rfl, by rw [HQ.out]; exact below_drewN HB0.out _⟩
set_option maxRecDepth 100000 in
set_option maxHeartbeats 2000000 in
theorem isPlace_f0 (x0 x1 x2 x4 : Int) (w : World) (h0 : 0 ≤ x0) (h1 : x0 < x1) (h2 : x1 ≤ 32768) (h3 : within x2 0 63 = true) (h4 : within 0 0 2 = true) (R : Bool) (h5 : within x4 0 31 = R) :
    Calls Try.prog 50 #[.agg #[.int .i64 x0, .int .i64 x1, .int .i64 x2, .int .i64 0, .int .i64 x4]] w fun e w' => e = .returned (.bool R) ∧ Below w.heap.size w w' := by
  have hb0 : Below w.heap.size w ((w.alloc (.cells #[.int .i64 x0, .int .i64 x1, .int .i64 x2, .int .i64 0, .int .i64 x4] 38)).alloc (.cells #[.int .i64 31, .int .i64 32764, .int .i64 4294967295] 3)) := ((Below.refl _ _).alloc (Nat.le_refl _) _).alloc (by simp) _
  have c0 : ((w.alloc (.cells #[.int .i64 x0, .int .i64 x1, .int .i64 x2, .int .i64 0, .int .i64 x4] 38)).alloc (.cells #[.int .i64 31, .int .i64 32764, .int .i64 4294967295] 3)).cell? ⟨w.heap.size, 0, none⟩ = some (.int .i64 x0) := by simp [go_sem]
  have c1 : ((w.alloc (.cells #[.int .i64 x0, .int .i64 x1, .int .i64 x2, .int .i64 0, .int .i64 x4] 38)).alloc (.cells #[.int .i64 31, .int .i64 32764, .int .i64 4294967295] 3)).cell? ⟨w.heap.size, 1, none⟩ = some (.int .i64 x1) := by simp [go_sem]
  have c2 : ((w.alloc (.cells #[.int .i64 x0, .int .i64 x1, .int .i64 x2, .int .i64 0, .int .i64 x4] 38)).alloc (.cells #[.int .i64 31, .int .i64 32764, .int .i64 4294967295] 3)).cell? ⟨w.heap.size, 2, none⟩ = some (.int .i64 x2) := by simp [go_sem]
  have c3 : ((w.alloc (.cells #[.int .i64 x0, .int .i64 x1, .int .i64 x2, .int .i64 0, .int .i64 x4] 38)).alloc (.cells #[.int .i64 31, .int .i64 32764, .int .i64 4294967295] 3)).cell? ⟨w.heap.size, 3, none⟩ = some (.int .i64 0) := by simp [go_sem]
  have c4 : ((w.alloc (.cells #[.int .i64 x0, .int .i64 x1, .int .i64 x2, .int .i64 0, .int .i64 x4] 38)).alloc (.cells #[.int .i64 31, .int .i64 32764, .int .i64 4294967295] 3)).cell? ⟨w.heap.size, 4, none⟩ = some (.int .i64 x4) := by simp [go_sem]
  have l0 : ((w.alloc (.cells #[.int .i64 x0, .int .i64 x1, .int .i64 x2, .int .i64 0, .int .i64 x4] 38)).alloc (.cells #[.int .i64 31, .int .i64 32764, .int .i64 4294967295] 3)).cell? ⟨w.heap.size + 1, 0, none⟩ = some (.int .i64 31) := by simp [go_sem]
  have d0 : decide (0 ≤ x0) = true := decide_eq_true h0
  have d1 : decide (x0 < x1) = true := decide_eq_true h1
  have d2 : decide (x1 ≤ 32768) = true := decide_eq_true h2
  have HB0 := Lib.hid hb0
  clear hb0
  go_enter Try.func50, Try.ntmps50
  go_wp2_with fail
  generalize (w.alloc (.cells #[.int .i64 x0, .int .i64 x1, .int .i64 x2, .int .i64 0, .int .i64 x4] 38)).alloc (.cells #[.int .i64 31, .int .i64 32764, .int .i64 4294967295] 3) = w0 at *
  generalize hq : w.heap.size = q0 at *
  have HQ := Lib.hid hq; clear hq
  go_quiet ((go_at_call 42; exact Calls.quiet_of_same (within_eq (by assumption) _)))
  go_wp2_with fail
  go_ret
  exact ⟨rfl, by rw [HQ.out]; exact below_drewN HB0.out _⟩
set_option maxRecDepth 100000 in
set_option maxHeartbeats 2000000 in
theorem isPlace_f1 (x0 x1 x2 x4 : Int) (w : World) (h0 : 0 ≤ x0) (h1 : x0 < x1) (h2 : x1 ≤ 32768) (h3 : within x2 0 63 = true) (h4 : within 1 0 2 = true) (R : Bool) (h5 : within x4 0 32764 = R) :
    Calls Try.prog 50 #[.agg #[.int .i64 x0, .int .i64 x1, .int .i64 x2, .int .i64 1, .int .i64 x4]] w fun e w' => e = .returned (.bool R) ∧ Below w.heap.size w w' := by
  have hb0 : Below w.heap.size w ((w.alloc (.cells #[.int .i64 x0, .int .i64 x1, .int .i64 x2, .int .i64 1, .int .i64 x4] 38)).alloc (.cells #[.int .i64 31, .int .i64 32764, .int .i64 4294967295] 3)) := ((Below.refl _ _).alloc (Nat.le_refl _) _).alloc (by simp) _
  have c0 : ((w.alloc (.cells #[.int .i64 x0, .int .i64 x1, .int .i64 x2, .int .i64 1, .int .i64 x4] 38)).alloc (.cells #[.int .i64 31, .int .i64 32764, .int .i64 4294967295] 3)).cell? ⟨w.heap.size, 0, none⟩ = some (.int .i64 x0) := by simp [go_sem]
  have c1 : ((w.alloc (.cells #[.int .i64 x0, .int .i64 x1, .int .i64 x2, .int .i64 1, .int .i64 x4] 38)).alloc (.cells #[.int .i64 31, .int .i64 32764, .int .i64 4294967295] 3)).cell? ⟨w.heap.size, 1, none⟩ = some (.int .i64 x1) := by simp [go_sem]
  have c2 : ((w.alloc (.cells #[.int .i64 x0, .int .i64 x1, .int .i64 x2, .int .i64 1, .int .i64 x4] 38)).alloc (.cells #[.int .i64 31, .int .i64 32764, .int .i64 4294967295] 3)).cell? ⟨w.heap.size, 2, none⟩ = some (.int .i64 x2) := by simp [go_sem]
  have c3 : ((w.alloc (.cells #[.int .i64 x0, .int .i64 x1, .int .i64 x2, .int .i64 1, .int .i64 x4] 38)).alloc (.cells #[.int .i64 31, .int .i64 32764, .int .i64 4294967295] 3)).cell? ⟨w.heap.size, 3, none⟩ = some (.int .i64 1) := by simp [go_sem]
  have c4 : ((w.alloc (.cells #[.int .i64 x0, .int .i64 x1, .int .i64 x2, .int .i64 1, .int .i64 x4] 38)).alloc (.cells #[.int .i64 31, .int .i64 32764, .int .i64 4294967295] 3)).cell? ⟨w.heap.size, 4, none⟩ = some (.int .i64 x4) := by simp [go_sem]
  have l0 : ((w.alloc (.cells #[.int .i64 x0, .int .i64 x1, .int .i64 x2, .int .i64 1, .int .i64 x4] 38)).alloc (.cells #[.int .i64 31, .int .i64 32764, .int .i64 4294967295] 3)).cell? ⟨w.heap.size + 1, 1, none⟩ = some (.int .i64 32764) := by simp [go_sem]
  have d0 : decide (0 ≤ x0) = true := decide_eq_true h0
  have d1 : decide (x0 < x1) = true := decide_eq_true h1
  have d2 : decide (x1 ≤ 32768) = true := decide_eq_true h2
  have HB0 := Lib.hid hb0
  clear hb0
  go_enter Try.func50, Try.ntmps50
  go_wp2_with fail
  generalize (w.alloc (.cells #[.int .i64 x0, .int .i64 x1, .int .i64 x2, .int .i64 1, .int .i64 x4] 38)).alloc (.cells #[.int .i64 31, .int .i64 32764, .int .i64 4294967295] 3) = w0 at *
  generalize hq : w.heap.size = q0 at *
  have HQ := Lib.hid hq; clear hq
  go_quiet ((go_at_call 42; exact Calls.quiet_of_same (within_eq (by assumption) _)))
  go_wp2_with fail
  go_ret
  exact ⟨rfl, by rw [HQ.out]; exact below_drewN HB0.out _⟩
set_option maxRecDepth 100000 in
set_option maxHeartbeats 2000000 in
theorem isPlace_f2 (x0 x1 x2 x4 : Int) (w : World) (h0 : 0 ≤ x0) (h1 : x0 < x1) (h2 : x1 ≤ 32768) (h3 : within x2 0 63 = true) (h4 : within 2 0 2 = true) (R : Bool) (h5 : within x4 0 4294967295 = R) :
    Calls Try.prog 50 #[.agg #[.int .i64 x0, .int .i64 x1, .int .i64 x2, .int .i64 2, .int .i64 x4]] w fun e w' => e = .returned (.bool R) ∧ Below w.heap.size w w' := by
  have hb0 : Below w.heap.size w ((w.alloc (.cells #[.int .i64 x0, .int .i64 x1, .int .i64 x2, .int .i64 2, .int .i64 x4] 38)).alloc (.cells #[.int .i64 31, .int .i64 32764, .int .i64 4294967295] 3)) := ((Below.refl _ _).alloc (Nat.le_refl _) _).alloc (by simp) _
  have c0 : ((w.alloc (.cells #[.int .i64 x0, .int .i64 x1, .int .i64 x2, .int .i64 2, .int .i64 x4] 38)).alloc (.cells #[.int .i64 31, .int .i64 32764, .int .i64 4294967295] 3)).cell? ⟨w.heap.size, 0, none⟩ = some (.int .i64 x0) := by simp [go_sem]
  have c1 : ((w.alloc (.cells #[.int .i64 x0, .int .i64 x1, .int .i64 x2, .int .i64 2, .int .i64 x4] 38)).alloc (.cells #[.int .i64 31, .int .i64 32764, .int .i64 4294967295] 3)).cell? ⟨w.heap.size, 1, none⟩ = some (.int .i64 x1) := by simp [go_sem]
  have c2 : ((w.alloc (.cells #[.int .i64 x0, .int .i64 x1, .int .i64 x2, .int .i64 2, .int .i64 x4] 38)).alloc (.cells #[.int .i64 31, .int .i64 32764, .int .i64 4294967295] 3)).cell? ⟨w.heap.size, 2, none⟩ = some (.int .i64 x2) := by simp [go_sem]
  have c3 : ((w.alloc (.cells #[.int .i64 x0, .int .i64 x1, .int .i64 x2, .int .i64 2, .int .i64 x4] 38)).alloc (.cells #[.int .i64 31, .int .i64 32764, .int .i64 4294967295] 3)).cell? ⟨w.heap.size, 3, none⟩ = some (.int .i64 2) := by simp [go_sem]
  have c4 : ((w.alloc (.cells #[.int .i64 x0, .int .i64 x1, .int .i64 x2, .int .i64 2, .int .i64 x4] 38)).alloc (.cells #[.int .i64 31, .int .i64 32764, .int .i64 4294967295] 3)).cell? ⟨w.heap.size, 4, none⟩ = some (.int .i64 x4) := by simp [go_sem]
  have l0 : ((w.alloc (.cells #[.int .i64 x0, .int .i64 x1, .int .i64 x2, .int .i64 2, .int .i64 x4] 38)).alloc (.cells #[.int .i64 31, .int .i64 32764, .int .i64 4294967295] 3)).cell? ⟨w.heap.size + 1, 2, none⟩ = some (.int .i64 4294967295) := by simp [go_sem]
  have d0 : decide (0 ≤ x0) = true := decide_eq_true h0
  have d1 : decide (x0 < x1) = true := decide_eq_true h1
  have d2 : decide (x1 ≤ 32768) = true := decide_eq_true h2
  have HB0 := Lib.hid hb0
  clear hb0
  go_enter Try.func50, Try.ntmps50
  go_wp2_with fail
  generalize (w.alloc (.cells #[.int .i64 x0, .int .i64 x1, .int .i64 x2, .int .i64 2, .int .i64 x4] 38)).alloc (.cells #[.int .i64 31, .int .i64 32764, .int .i64 4294967295] 3) = w0 at *
  generalize hq : w.heap.size = q0 at *
  have HQ := Lib.hid hq; clear hq
  go_quiet ((go_at_call 42; exact Calls.quiet_of_same (within_eq (by assumption) _)))
  go_wp2_with fail
  go_ret
  exact ⟨rfl, by rw [HQ.out]; exact below_drewN HB0.out _⟩

theorem isPl_parts (p : Pl) : isPl p = (decide (0 ≤ p.fr) && (decide (p.fr < p.to) && (decide (p.to ≤ 32768) && (within p.va 0 63 && (within p.ki 0 2 && within p.nn 0 (limK p.ki)))))) := by
  unfold isPl within
  simp only [Bool.and_assoc]
theorem isPlace_any (p : Pl) (w : World) : Calls Try.prog 50 #[(.agg #[.int .i64 p.fr, .int .i64 p.to, .int .i64 p.va, .int .i64 p.ki, .int .i64 p.nn])] w fun e w' => e = .returned (.bool (isPl p)) ∧ Below w.heap.size w w' := by
  obtain ⟨x0, x1, x2, x3, x4⟩ := p
  rw [isPl_parts]
  by_cases h0 : 0 ≤ x0
  rotate_left
  · rw [decide_eq_false h0]; exact isPlace_a x0 x1 x2 x3 x4 w h0
  by_cases h1 : x0 < x1
  rotate_left
  · rw [decide_eq_true h0, decide_eq_false h1]; exact isPlace_b x0 x1 x2 x3 x4 w h0 h1
  by_cases h2 : x1 ≤ 32768
  rotate_left
  · rw [decide_eq_true h0, decide_eq_true h1, decide_eq_false h2]; exact isPlace_c x0 x1 x2 x3 x4 w h0 h1 h2
  rw [decide_eq_true h0, decide_eq_true h1, decide_eq_true h2]
  cases h3 : within x2 0 63
  · exact isPlace_d x0 x1 x2 x3 x4 w h0 h1 h2 h3
  cases h4 : within x3 0 2
  · exact isPlace_e x0 x1 x2 x3 x4 w h0 h1 h2 h3 h4
  have h4' := h4
  unfold within at h4'
  rw [Bool.and_eq_true, decide_eq_true_iff, decide_eq_true_iff] at h4'
  have : x3 = 0 ∨ x3 = 1 ∨ x3 = 2 := by omega
  rcases this with hk | hk | hk
  · subst hk; exact isPlace_f0 x0 x1 x2 x4 w h0 h1 h2 h3 h4 _ rfl
  · subst hk; exact isPlace_f1 x0 x1 x2 x4 w h0 h1 h2 h3 h4 _ rfl
  · subst hk; exact isPlace_f2 x0 x1 x2 x4 w h0 h1 h2 h3 h4 _ rfl
end Go.Proofs.Ytmhneonebjcieaa
