/- The walks of isPlace and before of the document. -/
import Derived.Test.YtmhneonebjcieaaW1
namespace Go.Proofs.Ytmhneonebjcieaa
open Go.RowKit

set_option maxRecDepth 100000 in
set_option maxHeartbeats 1000000 in
theorem rPlace_a (x0 x1 x2 x3 x4 : Int) (w : World) (h0 : within x0 0 32768 = false) :
    Calls Try.prog 53 #[.agg #[.int .i64 x0, .int .i64 x1, .int .i64 x2, .int .i64 x3, .int .i64 x4]] w fun e w' => e = .returned (.bool false) ∧ Below w.heap.size w w' := by
  have HBl : Hid (∀ o, Below w.heap.size w (w.alloc o)) := Lib.hid fun o => (Below.refl _ _).alloc (Nat.le_refl _) _
  go_enter Try.func53, Try.ntmps53
  go_wp2_with (go_at_call 43; refine (rwithin_is (by assumption) _).mono ?_; rintro e w' ⟨rfl, rfl⟩)
  go_ret
  exact ⟨rfl, HBl.out _⟩
set_option maxRecDepth 100000 in
set_option maxHeartbeats 1000000 in
theorem rPlace_b (x0 x1 x2 x3 x4 : Int) (w : World) (h0 : within x0 0 32768 = true) (b0 : 0 ≤ x0) (b1 : x0 ≤ 32768) (h1 : within x1 (x0 + 1) 32768 = false) :
    Calls Try.prog 53 #[.agg #[.int .i64 x0, .int .i64 x1, .int .i64 x2, .int .i64 x3, .int .i64 x4]] w fun e w' => e = .returned (.bool false) ∧ Below w.heap.size w w' := by
  have HBl : Hid (∀ o, Below w.heap.size w (w.alloc o)) := Lib.hid fun o => (Below.refl _ _).alloc (Nat.le_refl _) _
  go_enter Try.func53, Try.ntmps53
  go_wp2_with (go_at_call 43; refine (rwithin_is (by assumption) _).mono ?_; rintro e w' ⟨rfl, rfl⟩)
  go_ret
  exact ⟨rfl, HBl.out _⟩
set_option maxRecDepth 100000 in
set_option maxHeartbeats 1000000 in
theorem rPlace_c (x0 x1 x2 x3 x4 : Int) (w : World) (h0 : within x0 0 32768 = true) (b0 : 0 ≤ x0) (b1 : x0 ≤ 32768) (h1 : within x1 (x0 + 1) 32768 = true) (h2 : within x2 0 63 = false) :
    Calls Try.prog 53 #[.agg #[.int .i64 x0, .int .i64 x1, .int .i64 x2, .int .i64 x3, .int .i64 x4]] w fun e w' => e = .returned (.bool false) ∧ Below w.heap.size w w' := by
  have HBl : Hid (∀ o, Below w.heap.size w (w.alloc o)) := Lib.hid fun o => (Below.refl _ _).alloc (Nat.le_refl _) _
  go_enter Try.func53, Try.ntmps53
  go_wp2_with (go_at_call 43; refine (rwithin_is (by assumption) _).mono ?_; rintro e w' ⟨rfl, rfl⟩)
  go_ret
  exact ⟨rfl, HBl.out _⟩
set_option maxRecDepth 100000 in
set_option maxHeartbeats 1000000 in
theorem rPlace_d (x0 x1 x2 x3 x4 : Int) (w : World) (h0 : within x0 0 32768 = true) (b0 : 0 ≤ x0) (b1 : x0 ≤ 32768) (h1 : within x1 (x0 + 1) 32768 = true) (h2 : within x2 0 63 = true) (k0 : ¬ x3 = 0) (k1 : ¬ x3 = 1) (k2 : ¬ x3 = 2) :
    Calls Try.prog 53 #[.agg #[.int .i64 x0, .int .i64 x1, .int .i64 x2, .int .i64 x3, .int .i64 x4]] w fun e w' => e = .returned (.bool false) ∧ Below w.heap.size w w' := by
  have HBl : Hid (∀ o, Below w.heap.size w (w.alloc o)) := Lib.hid fun o => (Below.refl _ _).alloc (Nat.le_refl _) _
  have e0 : (x3 == 0) = false := beq_eq_false_iff_ne.2 k0
  have e1 : (x3 == 1) = false := beq_eq_false_iff_ne.2 k1
  have e2 : (x3 == 2) = false := beq_eq_false_iff_ne.2 k2
  go_enter Try.func53, Try.ntmps53
  go_wp2_with (go_at_call 43; refine (rwithin_is (by assumption) _).mono ?_; rintro e w' ⟨rfl, rfl⟩)
  go_ret
  exact ⟨rfl, HBl.out _⟩
set_option maxRecDepth 100000 in
set_option maxHeartbeats 1000000 in
theorem rPlace_f0 (x0 x1 x2 x4 : Int) (w : World) (h0 : within x0 0 32768 = true) (b0 : 0 ≤ x0) (b1 : x0 ≤ 32768) (h1 : within x1 (x0 + 1) 32768 = true) (h2 : within x2 0 63 = true) (R : Bool) (h5 : within x4 0 31 = R) :
    Calls Try.prog 53 #[.agg #[.int .i64 x0, .int .i64 x1, .int .i64 x2, .int .i64 0, .int .i64 x4]] w fun e w' => e = .returned (.bool R) ∧ Below w.heap.size w w' := by
  have HBl : Hid (∀ o, Below w.heap.size w (w.alloc o)) := Lib.hid fun o => (Below.refl _ _).alloc (Nat.le_refl _) _
  go_enter Try.func53, Try.ntmps53
  go_wp2_with (go_at_call 43; refine (rwithin_is (by assumption) _).mono ?_; rintro e w' ⟨rfl, rfl⟩)
  go_ret
  exact ⟨rfl, HBl.out _⟩
set_option maxRecDepth 100000 in
set_option maxHeartbeats 1000000 in
theorem rPlace_f1 (x0 x1 x2 x4 : Int) (w : World) (h0 : within x0 0 32768 = true) (b0 : 0 ≤ x0) (b1 : x0 ≤ 32768) (h1 : within x1 (x0 + 1) 32768 = true) (h2 : within x2 0 63 = true) (R : Bool) (h5 : within x4 0 32764 = R) :
    Calls Try.prog 53 #[.agg #[.int .i64 x0, .int .i64 x1, .int .i64 x2, .int .i64 1, .int .i64 x4]] w fun e w' => e = .returned (.bool R) ∧ Below w.heap.size w w' := by
  have HBl : Hid (∀ o, Below w.heap.size w (w.alloc o)) := Lib.hid fun o => (Below.refl _ _).alloc (Nat.le_refl _) _
  go_enter Try.func53, Try.ntmps53
  go_wp2_with (go_at_call 43; refine (rwithin_is (by assumption) _).mono ?_; rintro e w' ⟨rfl, rfl⟩)
  go_ret
  exact ⟨rfl, HBl.out _⟩
set_option maxRecDepth 100000 in
set_option maxHeartbeats 1000000 in
theorem rPlace_f2 (x0 x1 x2 x4 : Int) (w : World) (h0 : within x0 0 32768 = true) (b0 : 0 ≤ x0) (b1 : x0 ≤ 32768) (h1 : within x1 (x0 + 1) 32768 = true) (h2 : within x2 0 63 = true) (R : Bool) (h5 : within x4 0 4294967295 = R) :
    Calls Try.prog 53 #[.agg #[.int .i64 x0, .int .i64 x1, .int .i64 x2, .int .i64 2, .int .i64 x4]] w fun e w' => e = .returned (.bool R) ∧ Below w.heap.size w w' := by
  have HBl : Hid (∀ o, Below w.heap.size w (w.alloc o)) := Lib.hid fun o => (Below.refl _ _).alloc (Nat.le_refl _) _
  go_enter Try.func53, Try.ntmps53
  go_wp2_with (go_at_call 43; refine (rwithin_is (by assumption) _).mono ?_; rintro e w' ⟨rfl, rfl⟩)
  go_ret
  exact ⟨rfl, HBl.out _⟩
theorem rPlace_any (p : Pl) (w : World) : Calls Try.prog 53 #[(.agg #[.int .i64 p.fr, .int .i64 p.to, .int .i64 p.va, .int .i64 p.ki, .int .i64 p.nn])] w fun e w' => e = .returned (.bool (isPl p)) ∧ Below w.heap.size w w' := by
  obtain ⟨x0, x1, x2, x3, x4⟩ := p
  have hp : isPl ⟨x0, x1, x2, x3, x4⟩ = (within x0 0 32768 && (within x1 (x0 + 1) 32768 && (within x2 0 63 && (within x3 0 2 && within x4 0 (limK x3))))) := by
    rw [Bool.eq_iff_iff]
    unfold isPl within
    simp only [Bool.and_eq_true, decide_eq_true_iff]
    constructor
    · rintro ⟨⟨⟨⟨⟨⟨⟨⟨a, b⟩, c⟩, d⟩, e⟩, f⟩, g⟩, h⟩, i⟩
      exact ⟨⟨a, by omega⟩, ⟨by omega, c⟩, ⟨d, e⟩, ⟨f, g⟩, h, i⟩
    · rintro ⟨⟨a, b⟩, ⟨c, d⟩, ⟨e, f⟩, ⟨g, h⟩, i, j⟩
      exact ⟨⟨⟨⟨⟨⟨⟨⟨a, by omega⟩, d⟩, e⟩, f⟩, g⟩, h⟩, i⟩, j⟩
  rw [hp]
  cases h0 : within x0 0 32768
  · exact rPlace_a x0 x1 x2 x3 x4 w h0
  have hb := h0
  unfold within at hb
  rw [Bool.and_eq_true, decide_eq_true_iff, decide_eq_true_iff] at hb
  cases h1 : within x1 (x0 + 1) 32768
  · exact rPlace_b x0 x1 x2 x3 x4 w h0 hb.1 hb.2 h1
  cases h2 : within x2 0 63
  · exact rPlace_c x0 x1 x2 x3 x4 w h0 hb.1 hb.2 h1 h2
  by_cases k0 : x3 = 0
  · subst k0; exact rPlace_f0 x0 x1 x2 x4 w h0 hb.1 hb.2 h1 h2 _ rfl
  by_cases k1 : x3 = 1
  · subst k1; exact rPlace_f1 x0 x1 x2 x4 w h0 hb.1 hb.2 h1 h2 _ rfl
  by_cases k2 : x3 = 2
  · subst k2; exact rPlace_f2 x0 x1 x2 x4 w h0 hb.1 hb.2 h1 h2 _ rfl
  rw [within_no (n := x3) (by omega)]
  exact rPlace_d x0 x1 x2 x3 x4 w h0 hb.1 hb.2 h1 h2 k0 k1 k2

set_option maxRecDepth 100000 in
set_option maxHeartbeats 1000000 in
theorem before_0 (x0 x1 x2 x3 x4 y0 y1 y2 y3 y4 : Int) (w : World) (h : ¬ x0 = y0) :
    Calls Try.prog 54 #[.agg #[.int .i64 x0, .int .i64 x1, .int .i64 x2, .int .i64 x3, .int .i64 x4], .agg #[.int .i64 y0, .int .i64 y1, .int .i64 y2, .int .i64 y3, .int .i64 y4]] w fun e w' => e = .returned (.bool (decide (x0 < y0))) ∧ Below w.heap.size w w' := by
  have HBl : Hid (∀ o p, Below w.heap.size w ((w.alloc o).alloc p)) := Lib.hid fun o p => ((Below.refl _ _).alloc (Nat.le_refl _) _).alloc (by simp) _
  have d0 : (x0 != y0) = true := bne_iff_ne.2 h
  generalize hD : decide (x0 < y0) = D
  have HD := Lib.hid hD; clear hD
  go_enter Try.func54, Try.ntmps54
  go_wp2_with fail
  go_ret
  exact ⟨ret_bool HD.out, HBl.out _ _⟩
set_option maxRecDepth 100000 in
set_option maxHeartbeats 1000000 in
theorem before_1 (x0 x1 x2 x3 x4 y1 y2 y3 y4 : Int) (w : World) (h : ¬ x1 = y1) :
    Calls Try.prog 54 #[.agg #[.int .i64 x0, .int .i64 x1, .int .i64 x2, .int .i64 x3, .int .i64 x4], .agg #[.int .i64 x0, .int .i64 y1, .int .i64 y2, .int .i64 y3, .int .i64 y4]] w fun e w' => e = .returned (.bool (decide (x1 < y1))) ∧ Below w.heap.size w w' := by
  have HBl : Hid (∀ o p, Below w.heap.size w ((w.alloc o).alloc p)) := Lib.hid fun o p => ((Below.refl _ _).alloc (Nat.le_refl _) _).alloc (by simp) _
  have d0 : (x0 != x0) = false := by simp
  have d1 : (x1 != y1) = true := bne_iff_ne.2 h
  generalize hD : decide (x1 < y1) = D
  have HD := Lib.hid hD; clear hD
  go_enter Try.func54, Try.ntmps54
  go_wp2_with fail
  go_ret
  exact ⟨ret_bool HD.out, HBl.out _ _⟩
set_option maxRecDepth 100000 in
set_option maxHeartbeats 1000000 in
theorem before_2 (x0 x1 x2 x3 x4 y2 y3 y4 : Int) (w : World) (h : ¬ x2 = y2) :
    Calls Try.prog 54 #[.agg #[.int .i64 x0, .int .i64 x1, .int .i64 x2, .int .i64 x3, .int .i64 x4], .agg #[.int .i64 x0, .int .i64 x1, .int .i64 y2, .int .i64 y3, .int .i64 y4]] w fun e w' => e = .returned (.bool (decide (x2 < y2))) ∧ Below w.heap.size w w' := by
  have HBl : Hid (∀ o p, Below w.heap.size w ((w.alloc o).alloc p)) := Lib.hid fun o p => ((Below.refl _ _).alloc (Nat.le_refl _) _).alloc (by simp) _
  have d0 : (x0 != x0) = false := by simp
  have d1 : (x1 != x1) = false := by simp
  have d2 : (x2 != y2) = true := bne_iff_ne.2 h
  generalize hD : decide (x2 < y2) = D
  have HD := Lib.hid hD; clear hD
  go_enter Try.func54, Try.ntmps54
  go_wp2_with fail
  go_ret
  exact ⟨ret_bool HD.out, HBl.out _ _⟩
set_option maxRecDepth 100000 in
set_option maxHeartbeats 1000000 in
theorem before_3 (x0 x1 x2 x3 x4 y3 y4 : Int) (w : World) (h : ¬ x3 = y3) :
    Calls Try.prog 54 #[.agg #[.int .i64 x0, .int .i64 x1, .int .i64 x2, .int .i64 x3, .int .i64 x4], .agg #[.int .i64 x0, .int .i64 x1, .int .i64 x2, .int .i64 y3, .int .i64 y4]] w fun e w' => e = .returned (.bool (decide (x3 < y3))) ∧ Below w.heap.size w w' := by
  have HBl : Hid (∀ o p, Below w.heap.size w ((w.alloc o).alloc p)) := Lib.hid fun o p => ((Below.refl _ _).alloc (Nat.le_refl _) _).alloc (by simp) _
  have d0 : (x0 != x0) = false := by simp
  have d1 : (x1 != x1) = false := by simp
  have d2 : (x2 != x2) = false := by simp
  have d3 : (x3 != y3) = true := bne_iff_ne.2 h
  generalize hD : decide (x3 < y3) = D
  have HD := Lib.hid hD; clear hD
  go_enter Try.func54, Try.ntmps54
  go_wp2_with fail
  go_ret
  exact ⟨ret_bool HD.out, HBl.out _ _⟩
set_option maxRecDepth 100000 in
set_option maxHeartbeats 1000000 in
theorem before_4 (x0 x1 x2 x3 x4 y4 : Int) (w : World)  :
    Calls Try.prog 54 #[.agg #[.int .i64 x0, .int .i64 x1, .int .i64 x2, .int .i64 x3, .int .i64 x4], .agg #[.int .i64 x0, .int .i64 x1, .int .i64 x2, .int .i64 x3, .int .i64 y4]] w fun e w' => e = .returned (.bool (decide (x4 < y4))) ∧ Below w.heap.size w w' := by
  have HBl : Hid (∀ o p, Below w.heap.size w ((w.alloc o).alloc p)) := Lib.hid fun o p => ((Below.refl _ _).alloc (Nat.le_refl _) _).alloc (by simp) _
  have d0 : (x0 != x0) = false := by simp
  have d1 : (x1 != x1) = false := by simp
  have d2 : (x2 != x2) = false := by simp
  have d3 : (x3 != x3) = false := by simp
  generalize hD : decide (x4 < y4) = D
  have HD := Lib.hid hD; clear hD
  go_enter Try.func54, Try.ntmps54
  go_wp2_with fail
  go_ret
  exact ⟨ret_bool HD.out, HBl.out _ _⟩
theorem before_any (p q : Pl) (w : World) : Calls Try.prog 54 #[(.agg #[.int .i64 p.fr, .int .i64 p.to, .int .i64 p.va, .int .i64 p.ki, .int .i64 p.nn]), (.agg #[.int .i64 q.fr, .int .i64 q.to, .int .i64 q.va, .int .i64 q.ki, .int .i64 q.nn])] w fun e w' => e = .returned (.bool (ltP p q)) ∧ Below w.heap.size w w' := by
  obtain ⟨x0, x1, x2, x3, x4⟩ := p
  obtain ⟨y0, y1, y2, y3, y4⟩ := q
  have hlt : ∀ b : Bool, (b = true ↔ (x0 < y0 ∨ x0 = y0 ∧ (x1 < y1 ∨ x1 = y1 ∧ (x2 < y2 ∨ x2 = y2 ∧ (x3 < y3 ∨ x3 = y3 ∧ x4 < y4))))) → ltP ⟨x0, x1, x2, x3, x4⟩ ⟨y0, y1, y2, y3, y4⟩ = b := fun b hb => by
    rw [Bool.eq_iff_iff, hb]; exact ltP_iff
  by_cases h0 : x0 = y0
  rotate_left
  · rw [hlt (decide (x0 < y0)) (by rw [decide_eq_true_iff]; omega)]
    exact before_0 x0 x1 x2 x3 x4 y0 y1 y2 y3 y4 w h0
  subst h0
  by_cases h1 : x1 = y1
  rotate_left
  · rw [hlt (decide (x1 < y1)) (by rw [decide_eq_true_iff]; omega)]
    exact before_1 x0 x1 x2 x3 x4 y1 y2 y3 y4 w h1
  subst h1
  by_cases h2 : x2 = y2
  rotate_left
  · rw [hlt (decide (x2 < y2)) (by rw [decide_eq_true_iff]; omega)]
    exact before_2 x0 x1 x2 x3 x4 y2 y3 y4 w h2
  subst h2
  by_cases h3 : x3 = y3
  rotate_left
  · rw [hlt (decide (x3 < y3)) (by rw [decide_eq_true_iff]; omega)]
    exact before_3 x0 x1 x2 x3 x4 y3 y4 w h3
  subst h3
  rw [hlt (decide (x4 < y4)) (by rw [decide_eq_true_iff]; omega)]
  exact before_4 x0 x1 x2 x3 x4 y4 w
end Go.Proofs.Ytmhneonebjcieaa
