/- The walks of the specification's isCode, count, Validate, at right programs. -/
import Derived.Test.YtjfpaelmcepidaaMC
import Derived.Deep.RegionHeld3
namespace Go.Proofs.Ytjfpaelmcepidaa.PK
open Go.RowKit

theorem code_parts {x : Cd} {regs blocks : Int} (h : isCodeB x regs blocks = true) : (0 ≤ x.op ∧ x.op ≤ 27) ∧ (fD x.op = true → 0 ≤ x.d ∧ x.d < regs) ∧ (fD x.op = false → x.d = 0) ∧ (fA x.op = true → lowA x.op ≤ x.a ∧ x.a < regs) ∧ (fA x.op = false → x.a = 0) ∧ (fB x.op = true → 0 ≤ x.b ∧ x.b < regs) ∧ (fB x.op = false → x.b = 0) ∧ (fT x.op = true → 0 ≤ x.to ∧ x.to < blocks) ∧ (fT x.op = false → x.to = 0) ∧ (fI x.op = false → x.im = 0) := by
  unfold isCodeB wi at h
  simp only [Bool.and_eq_true] at h
  obtain ⟨h0, h1, h2, h3, h4, h5⟩ := h
  refine ⟨by unfold fO at h0; simpa using h0, fun e => ?_, fun e => ?_, fun e => ?_, fun e => ?_, fun e => ?_, fun e => ?_, fun e => ?_, fun e => ?_, fun e => ?_⟩
  · rw [if_pos e] at h1; simpa using h1
  · rw [if_neg (by rw [e]; decide)] at h1; simpa using h1
  · rw [if_pos e] at h2; simpa using h2
  · rw [if_neg (by rw [e]; decide)] at h2; simpa using h2
  · rw [if_pos e] at h3; simpa using h3
  · rw [if_neg (by rw [e]; decide)] at h3; simpa using h3
  · rw [if_pos e] at h4; simpa using h4
  · rw [if_neg (by rw [e]; decide)] at h4; simpa using h4
  · rw [e, Bool.false_or] at h5; simpa using h5
theorem cell_six_in0 {w : World} {q : Nat} {x : Cd} (h : CdAt w q 0 x) : w.cell? ⟨q, 0, none⟩ = some (.int .i64 x.op) ∧ w.cell? ⟨q, 1, none⟩ = some (.int .i64 x.d) ∧ w.cell? ⟨q, 2, none⟩ = some (.int .i64 x.a) ∧ w.cell? ⟨q, 3, none⟩ = some (.int .i64 x.b) ∧ w.cell? ⟨q, 4, none⟩ = some (.int .u32 x.im) ∧ w.cell? ⟨q, 5, none⟩ = some (.int .i64 x.to) := by
  have h1 := h.c1; have h2 := h.c2; have h3 := h.c3; have h4 := h.c4; have h5 := h.c5
  rw [Nat.zero_add] at h1 h2 h3 h4 h5
  exact ⟨h.c0, h1, h2, h3, h4, h5⟩
theorem flags (op : Int) (h : 0 ≤ op ∧ op ≤ 27) :
    (fD op = true ∧ fA op = false ∧ fB op = false ∧ fI op = true ∧ fT op = false ∧ fM op = false) ∨
    (fD op = true ∧ fA op = true ∧ fB op = false ∧ fI op = false ∧ fT op = false ∧ fM op = false) ∨
    (fD op = true ∧ fA op = true ∧ fB op = true ∧ fI op = false ∧ fT op = false ∧ fM op = false) ∨
    (fD op = true ∧ fA op = true ∧ fB op = false ∧ fI op = true ∧ fT op = false ∧ fM op = true) ∨
    (fD op = false ∧ fA op = true ∧ fB op = true ∧ fI op = true ∧ fT op = false ∧ fM op = true) ∨
    (fD op = false ∧ fA op = false ∧ fB op = false ∧ fI op = false ∧ fT op = true ∧ fM op = false) ∨
    (fD op = false ∧ fA op = true ∧ fB op = false ∧ fI op = false ∧ fT op = true ∧ fM op = false) ∨
    (fD op = false ∧ fA op = false ∧ fB op = false ∧ fI op = false ∧ fT op = false ∧ fM op = false) := by
  have hc : op = 0 ∨ op = 1 ∨ (2 ≤ op ∧ op ≤ 17) ∨ (18 ≤ op ∧ op ≤ 20) ∨ (21 ≤ op ∧ op ≤ 23) ∨ op = 24 ∨ op = 25 ∨ (26 ≤ op ∧ op ≤ 27) := by omega
  unfold fD fA fB fI fT fM
  rcases hc with h | h | h | h | h | h | h | h
  · exact .inl ⟨decide_eq_true (by omega), decide_eq_false (by omega), decide_eq_false (by omega), decide_eq_true (by omega), decide_eq_false (by omega), decide_eq_false (by omega)⟩
  · exact .inr (.inl ⟨decide_eq_true (by omega), decide_eq_true (by omega), decide_eq_false (by omega), decide_eq_false (by omega), decide_eq_false (by omega), decide_eq_false (by omega)⟩)
  · exact .inr (.inr (.inl ⟨decide_eq_true (by omega), decide_eq_true (by omega), decide_eq_true (by omega), decide_eq_false (by omega), decide_eq_false (by omega), decide_eq_false (by omega)⟩))
  · exact .inr (.inr (.inr (.inl ⟨decide_eq_true (by omega), decide_eq_true (by omega), decide_eq_false (by omega), decide_eq_true (by omega), decide_eq_false (by omega), decide_eq_true (by omega)⟩)))
  · exact .inr (.inr (.inr (.inr (.inl ⟨decide_eq_false (by omega), decide_eq_true (by omega), decide_eq_true (by omega), decide_eq_true (by omega), decide_eq_false (by omega), decide_eq_true (by omega)⟩))))
  · exact .inr (.inr (.inr (.inr (.inr (.inl ⟨decide_eq_false (by omega), decide_eq_false (by omega), decide_eq_false (by omega), decide_eq_false (by omega), decide_eq_true (by omega), decide_eq_false (by omega)⟩)))))
  · exact .inr (.inr (.inr (.inr (.inr (.inr (.inl ⟨decide_eq_false (by omega), decide_eq_true (by omega), decide_eq_false (by omega), decide_eq_false (by omega), decide_eq_true (by omega), decide_eq_false (by omega)⟩))))))
  · exact .inr (.inr (.inr (.inr (.inr (.inr (.inr (⟨decide_eq_false (by omega), decide_eq_false (by omega), decide_eq_false (by omega), decide_eq_false (by omega), decide_eq_false (by omega), decide_eq_false (by omega)⟩)))))))
set_option maxRecDepth 100000 in
set_option maxHeartbeats 4000000 in
theorem rCode_ok {x : Cd} {regs blocks : Int} (h : isCodeB x regs blocks = true) (hr : 0 ≤ regs ∧ regs ≤ 1000000) (hbk : 0 ≤ blocks ∧ blocks ≤ 1000000) (w : World) : Calls Try.prog 28 #[(.agg #[.int .i64 x.op, .int .i64 x.d, .int .i64 x.a, .int .i64 x.b, .int .u32 x.im, .int .i64 x.to]), .int .i64 regs, .int .i64 blocks] w fun e w' => e = .returned (.bool true) ∧ Below w.heap.size w w' := by
  have HB0 := Lib.hid ((Below.refl w.heap.size w).alloc (Nat.le_refl _) (.cells #[.int .i64 x.op, .int .i64 x.d, .int .i64 x.a, .int .i64 x.b, .int .u32 x.im, .int .i64 x.to] 68))
  have HX := Lib.hid (cdAt_new w x 68)
  have HH := Lib.hid (rhas_any x.op)
  have HM := Lib.hid (rMem20_any x.op)
  have HW := Lib.hid rwithin_any
  obtain ⟨h0, hd1, hd0, ha1, ha0, hb1, hb0, ht1, ht0, hi0⟩ := code_parts h
  have hfl := flags x.op h0
  unfold lowA at ha1
  clear h
  generalize fD x.op = bd at *
  generalize fA x.op = ba at *
  generalize fB x.op = bb at *
  generalize fI x.op = bi at *
  generalize fT x.op = bt at *
  generalize fM x.op = bm at *
  obtain ⟨x0, x1, x2, x3, x4, x5⟩ := x
  simp only at h0 hd1 hd0 ha1 ha0 hb1 hb0 ht1 ht0 hi0 HH HM
  have HX : Hid (CdAt (w.alloc (.cells #[.int .i64 x0, .int .i64 x1, .int .i64 x2, .int .i64 x3, .int .u32 x4, .int .i64 x5] 68)) w.heap.size 0 ⟨x0, x1, x2, x3, x4, x5⟩) := HX
  have HB0 : Hid (Below w.heap.size w (w.alloc (.cells #[.int .i64 x0, .int .i64 x1, .int .i64 x2, .int .i64 x3, .int .u32 x4, .int .i64 x5] 68))) := HB0
  rcases hfl with h | h | h | h | h | h | h | h <;> obtain ⟨rfl, rfl, rfl, rfl, rfl, rfl⟩ := h
  · skip
    have hx1 := hd1 rfl
    have hx2 := ha0 rfl; subst hx2
    have hx3 := hb0 rfl; subst hx3
    have hx5 := ht0 rfl; subst hx5
    clear hd1 hd0 ha1 ha0 hb1 hb0 ht1 ht0 hi0
    go_enter Try.func28, Try.ntmps28
    go_upto_region 1 with (fail)
    have HX1 : Hid (CdAt (w.alloc (.cells #[.int .i64 x0, .int .i64 x1, .int .i64 0, .int .i64 0, .int .u32 x4, .int .i64 0] 68)) w.heap.size 0 ⟨x0, x1, 0, 0, x4, 0⟩) := HX
    have HB1 : Hid (Below w.heap.size w (w.alloc (.cells #[.int .i64 x0, .int .i64 x1, .int .i64 0, .int .i64 0, .int .u32 x4, .int .i64 0] 68))) := HB0
    clear HX HB0
    generalize w.alloc (.cells #[.int .i64 x0, .int .i64 x1, .int .i64 0, .int .i64 0, .int .u32 x4, .int .i64 0] 68) = w0 at *
    generalize hq : w.heap.size = q at HX1
    obtain ⟨c0, c1, c2, c3, c4, c5⟩ := cell_six_in0 HX1.out
    simp only at c0 c1 c2 c3 c4 c5
    subst hq
    clear HX1
    go_wp2_with fail
    refine (HW.out _ _ _ _).mono ?_; rintro e v ⟨rfl, rfl⟩
    have hdec : (decide ((0 : Int) ≤ x0) && decide (x0 ≤ 27)) = true := by simp; omega
    rw [hdec]
    go_wp2_with fail
    refine (HH.out _).mono ?_; rintro e v ⟨rfl, rfl⟩
    go_wp2_with fail
    refine (HM.out _).mono ?_; rintro e v ⟨rfl, rfl⟩
    go_wp2_with fail
    refine (HW.out _ _ _ _).mono ?_; rintro e v ⟨rfl, rfl⟩
    have hw1 : (decide ((0 : Int) ≤ x1) && decide (x1 ≤ regs - 1)) = true := by simp; omega
    rw [hw1]
    go_wp2_with fail
    go_ret
    exact ⟨rfl, HB1.out⟩
  · skip
    have hx1 := hd1 rfl
    have hx2 := ha1 rfl
    have hx3 := hb0 rfl; subst hx3
    have hx5 := ht0 rfl; subst hx5
    have hx4 := hi0 rfl; subst hx4
    rw [if_neg (by decide)] at hx2
    clear hd1 hd0 ha1 ha0 hb1 hb0 ht1 ht0 hi0
    go_enter Try.func28, Try.ntmps28
    go_upto_region 1 with (fail)
    have HX1 : Hid (CdAt (w.alloc (.cells #[.int .i64 x0, .int .i64 x1, .int .i64 x2, .int .i64 0, .int .u32 (0 : Nat), .int .i64 0] 68)) w.heap.size 0 ⟨x0, x1, x2, 0, 0, 0⟩) := HX
    have HB1 : Hid (Below w.heap.size w (w.alloc (.cells #[.int .i64 x0, .int .i64 x1, .int .i64 x2, .int .i64 0, .int .u32 (0 : Nat), .int .i64 0] 68))) := HB0
    clear HX HB0
    simp only [Int.natCast_zero] at HX1 HB1
    generalize w.alloc (.cells #[.int .i64 x0, .int .i64 x1, .int .i64 x2, .int .i64 0, .int .u32 0, .int .i64 0] 68) = w0 at *
    generalize hq : w.heap.size = q at HX1
    obtain ⟨c0, c1, c2, c3, c4, c5⟩ := cell_six_in0 HX1.out
    simp only at c0 c1 c2 c3 c4 c5
    subst hq
    clear HX1
    go_wp2_with fail
    refine (HW.out _ _ _ _).mono ?_; rintro e v ⟨rfl, rfl⟩
    have hdec : (decide ((0 : Int) ≤ x0) && decide (x0 ≤ 27)) = true := by simp; omega
    rw [hdec]
    go_wp2_with fail
    refine (HH.out _).mono ?_; rintro e v ⟨rfl, rfl⟩
    go_wp2_with fail
    refine (HM.out _).mono ?_; rintro e v ⟨rfl, rfl⟩
    go_wp2_with fail
    refine (HW.out _ _ _ _).mono ?_; rintro e v ⟨rfl, rfl⟩
    have hw1 : (decide ((0 : Int) ≤ x1) && decide (x1 ≤ regs - 1)) = true := by simp; omega
    rw [hw1]
    go_wp2_with fail
    refine (HW.out _ _ _ _).mono ?_; rintro e v ⟨rfl, rfl⟩
    have hw2 : (decide ((0 : Int) ≤ x2) && decide (x2 ≤ regs - 1)) = true := by simp; omega
    rw [hw2]
    go_wp2_with fail
    go_ret
    exact ⟨rfl, HB1.out⟩
  · skip
    have hx1 := hd1 rfl
    have hx2 := ha1 rfl
    have hx3 := hb1 rfl
    have hx5 := ht0 rfl; subst hx5
    have hx4 := hi0 rfl; subst hx4
    rw [if_neg (by decide)] at hx2
    clear hd1 hd0 ha1 ha0 hb1 hb0 ht1 ht0 hi0
    go_enter Try.func28, Try.ntmps28
    go_upto_region 1 with (fail)
    have HX1 : Hid (CdAt (w.alloc (.cells #[.int .i64 x0, .int .i64 x1, .int .i64 x2, .int .i64 x3, .int .u32 (0 : Nat), .int .i64 0] 68)) w.heap.size 0 ⟨x0, x1, x2, x3, 0, 0⟩) := HX
    have HB1 : Hid (Below w.heap.size w (w.alloc (.cells #[.int .i64 x0, .int .i64 x1, .int .i64 x2, .int .i64 x3, .int .u32 (0 : Nat), .int .i64 0] 68))) := HB0
    clear HX HB0
    simp only [Int.natCast_zero] at HX1 HB1
    generalize w.alloc (.cells #[.int .i64 x0, .int .i64 x1, .int .i64 x2, .int .i64 x3, .int .u32 0, .int .i64 0] 68) = w0 at *
    generalize hq : w.heap.size = q at HX1
    obtain ⟨c0, c1, c2, c3, c4, c5⟩ := cell_six_in0 HX1.out
    simp only at c0 c1 c2 c3 c4 c5
    subst hq
    clear HX1
    go_wp2_with fail
    refine (HW.out _ _ _ _).mono ?_; rintro e v ⟨rfl, rfl⟩
    have hdec : (decide ((0 : Int) ≤ x0) && decide (x0 ≤ 27)) = true := by simp; omega
    rw [hdec]
    go_wp2_with fail
    refine (HH.out _).mono ?_; rintro e v ⟨rfl, rfl⟩
    go_wp2_with fail
    refine (HM.out _).mono ?_; rintro e v ⟨rfl, rfl⟩
    go_wp2_with fail
    refine (HW.out _ _ _ _).mono ?_; rintro e v ⟨rfl, rfl⟩
    have hw1 : (decide ((0 : Int) ≤ x1) && decide (x1 ≤ regs - 1)) = true := by simp; omega
    rw [hw1]
    go_wp2_with fail
    refine (HW.out _ _ _ _).mono ?_; rintro e v ⟨rfl, rfl⟩
    have hw2 : (decide ((0 : Int) ≤ x2) && decide (x2 ≤ regs - 1)) = true := by simp; omega
    rw [hw2]
    go_wp2_with fail
    refine (HW.out _ _ _ _).mono ?_; rintro e v ⟨rfl, rfl⟩
    have hw3 : (decide ((0 : Int) ≤ x3) && decide (x3 ≤ regs - 1)) = true := by simp; omega
    rw [hw3]
    go_wp2_with fail
    go_ret
    exact ⟨rfl, HB1.out⟩
  · skip
    have hx1 := hd1 rfl
    have hx2 := ha1 rfl
    have hx3 := hb0 rfl; subst hx3
    have hx5 := ht0 rfl; subst hx5
    rw [if_pos rfl] at hx2
    clear hd1 hd0 ha1 ha0 hb1 hb0 ht1 ht0 hi0
    go_enter Try.func28, Try.ntmps28
    go_upto_region 1 with (fail)
    have HX1 : Hid (CdAt (w.alloc (.cells #[.int .i64 x0, .int .i64 x1, .int .i64 x2, .int .i64 0, .int .u32 x4, .int .i64 0] 68)) w.heap.size 0 ⟨x0, x1, x2, 0, x4, 0⟩) := HX
    have HB1 : Hid (Below w.heap.size w (w.alloc (.cells #[.int .i64 x0, .int .i64 x1, .int .i64 x2, .int .i64 0, .int .u32 x4, .int .i64 0] 68))) := HB0
    clear HX HB0
    generalize w.alloc (.cells #[.int .i64 x0, .int .i64 x1, .int .i64 x2, .int .i64 0, .int .u32 x4, .int .i64 0] 68) = w0 at *
    generalize hq : w.heap.size = q at HX1
    obtain ⟨c0, c1, c2, c3, c4, c5⟩ := cell_six_in0 HX1.out
    simp only at c0 c1 c2 c3 c4 c5
    subst hq
    clear HX1
    go_wp2_with fail
    refine (HW.out _ _ _ _).mono ?_; rintro e v ⟨rfl, rfl⟩
    have hdec : (decide ((0 : Int) ≤ x0) && decide (x0 ≤ 27)) = true := by simp; omega
    rw [hdec]
    go_wp2_with fail
    refine (HH.out _).mono ?_; rintro e v ⟨rfl, rfl⟩
    go_wp2_with fail
    refine (HM.out _).mono ?_; rintro e v ⟨rfl, rfl⟩
    go_wp2_with fail
    refine (HW.out _ _ _ _).mono ?_; rintro e v ⟨rfl, rfl⟩
    have hw1 : (decide ((0 : Int) ≤ x1) && decide (x1 ≤ regs - 1)) = true := by simp; omega
    rw [hw1]
    go_wp2_with fail
    refine (HW.out _ _ _ _).mono ?_; rintro e v ⟨rfl, rfl⟩
    have hw2 : (decide ((-1 : Int) ≤ x2) && decide (x2 ≤ regs - 1)) = true := by simp; omega
    rw [hw2]
    go_wp2_with fail
    go_ret
    exact ⟨rfl, HB1.out⟩
  · skip
    have hx1 := hd0 rfl; subst hx1
    have hx2 := ha1 rfl
    have hx3 := hb1 rfl
    have hx5 := ht0 rfl; subst hx5
    rw [if_pos rfl] at hx2
    clear hd1 hd0 ha1 ha0 hb1 hb0 ht1 ht0 hi0
    go_enter Try.func28, Try.ntmps28
    go_upto_region 1 with (fail)
    have HX1 : Hid (CdAt (w.alloc (.cells #[.int .i64 x0, .int .i64 0, .int .i64 x2, .int .i64 x3, .int .u32 x4, .int .i64 0] 68)) w.heap.size 0 ⟨x0, 0, x2, x3, x4, 0⟩) := HX
    have HB1 : Hid (Below w.heap.size w (w.alloc (.cells #[.int .i64 x0, .int .i64 0, .int .i64 x2, .int .i64 x3, .int .u32 x4, .int .i64 0] 68))) := HB0
    clear HX HB0
    generalize w.alloc (.cells #[.int .i64 x0, .int .i64 0, .int .i64 x2, .int .i64 x3, .int .u32 x4, .int .i64 0] 68) = w0 at *
    generalize hq : w.heap.size = q at HX1
    obtain ⟨c0, c1, c2, c3, c4, c5⟩ := cell_six_in0 HX1.out
    simp only at c0 c1 c2 c3 c4 c5
    subst hq
    clear HX1
    go_wp2_with fail
    refine (HW.out _ _ _ _).mono ?_; rintro e v ⟨rfl, rfl⟩
    have hdec : (decide ((0 : Int) ≤ x0) && decide (x0 ≤ 27)) = true := by simp; omega
    rw [hdec]
    go_wp2_with fail
    refine (HH.out _).mono ?_; rintro e v ⟨rfl, rfl⟩
    go_wp2_with fail
    refine (HM.out _).mono ?_; rintro e v ⟨rfl, rfl⟩
    go_wp2_with fail
    refine (HW.out _ _ _ _).mono ?_; rintro e v ⟨rfl, rfl⟩
    have hw2 : (decide ((-1 : Int) ≤ x2) && decide (x2 ≤ regs - 1)) = true := by simp; omega
    rw [hw2]
    go_wp2_with fail
    refine (HW.out _ _ _ _).mono ?_; rintro e v ⟨rfl, rfl⟩
    have hw3 : (decide ((0 : Int) ≤ x3) && decide (x3 ≤ regs - 1)) = true := by simp; omega
    rw [hw3]
    go_wp2_with fail
    go_ret
    exact ⟨rfl, HB1.out⟩
  · skip
    have hx1 := hd0 rfl; subst hx1
    have hx2 := ha0 rfl; subst hx2
    have hx3 := hb0 rfl; subst hx3
    have hx5 := ht1 rfl
    have hx4 := hi0 rfl; subst hx4
    clear hd1 hd0 ha1 ha0 hb1 hb0 ht1 ht0 hi0
    go_enter Try.func28, Try.ntmps28
    go_upto_region 1 with (fail)
    have HX1 : Hid (CdAt (w.alloc (.cells #[.int .i64 x0, .int .i64 0, .int .i64 0, .int .i64 0, .int .u32 (0 : Nat), .int .i64 x5] 68)) w.heap.size 0 ⟨x0, 0, 0, 0, 0, x5⟩) := HX
    have HB1 : Hid (Below w.heap.size w (w.alloc (.cells #[.int .i64 x0, .int .i64 0, .int .i64 0, .int .i64 0, .int .u32 (0 : Nat), .int .i64 x5] 68))) := HB0
    clear HX HB0
    simp only [Int.natCast_zero] at HX1 HB1
    generalize w.alloc (.cells #[.int .i64 x0, .int .i64 0, .int .i64 0, .int .i64 0, .int .u32 0, .int .i64 x5] 68) = w0 at *
    generalize hq : w.heap.size = q at HX1
    obtain ⟨c0, c1, c2, c3, c4, c5⟩ := cell_six_in0 HX1.out
    simp only at c0 c1 c2 c3 c4 c5
    subst hq
    clear HX1
    go_wp2_with fail
    refine (HW.out _ _ _ _).mono ?_; rintro e v ⟨rfl, rfl⟩
    have hdec : (decide ((0 : Int) ≤ x0) && decide (x0 ≤ 27)) = true := by simp; omega
    rw [hdec]
    go_wp2_with fail
    refine (HH.out _).mono ?_; rintro e v ⟨rfl, rfl⟩
    go_wp2_with fail
    refine (HM.out _).mono ?_; rintro e v ⟨rfl, rfl⟩
    go_wp2_with fail
    refine (HW.out _ _ _ _).mono ?_; rintro e v ⟨rfl, rfl⟩
    have hw5 : (decide ((0 : Int) ≤ x5) && decide (x5 ≤ blocks - 1)) = true := by simp; omega
    rw [hw5]
    go_wp2_with fail
    go_ret
    exact ⟨rfl, HB1.out⟩
  · skip
    have hx1 := hd0 rfl; subst hx1
    have hx2 := ha1 rfl
    have hx3 := hb0 rfl; subst hx3
    have hx5 := ht1 rfl
    have hx4 := hi0 rfl; subst hx4
    rw [if_neg (by decide)] at hx2
    clear hd1 hd0 ha1 ha0 hb1 hb0 ht1 ht0 hi0
    go_enter Try.func28, Try.ntmps28
    go_upto_region 1 with (fail)
    have HX1 : Hid (CdAt (w.alloc (.cells #[.int .i64 x0, .int .i64 0, .int .i64 x2, .int .i64 0, .int .u32 (0 : Nat), .int .i64 x5] 68)) w.heap.size 0 ⟨x0, 0, x2, 0, 0, x5⟩) := HX
    have HB1 : Hid (Below w.heap.size w (w.alloc (.cells #[.int .i64 x0, .int .i64 0, .int .i64 x2, .int .i64 0, .int .u32 (0 : Nat), .int .i64 x5] 68))) := HB0
    clear HX HB0
    simp only [Int.natCast_zero] at HX1 HB1
    generalize w.alloc (.cells #[.int .i64 x0, .int .i64 0, .int .i64 x2, .int .i64 0, .int .u32 0, .int .i64 x5] 68) = w0 at *
    generalize hq : w.heap.size = q at HX1
    obtain ⟨c0, c1, c2, c3, c4, c5⟩ := cell_six_in0 HX1.out
    simp only at c0 c1 c2 c3 c4 c5
    subst hq
    clear HX1
    go_wp2_with fail
    refine (HW.out _ _ _ _).mono ?_; rintro e v ⟨rfl, rfl⟩
    have hdec : (decide ((0 : Int) ≤ x0) && decide (x0 ≤ 27)) = true := by simp; omega
    rw [hdec]
    go_wp2_with fail
    refine (HH.out _).mono ?_; rintro e v ⟨rfl, rfl⟩
    go_wp2_with fail
    refine (HM.out _).mono ?_; rintro e v ⟨rfl, rfl⟩
    go_wp2_with fail
    refine (HW.out _ _ _ _).mono ?_; rintro e v ⟨rfl, rfl⟩
    have hw2 : (decide ((0 : Int) ≤ x2) && decide (x2 ≤ regs - 1)) = true := by simp; omega
    rw [hw2]
    go_wp2_with fail
    refine (HW.out _ _ _ _).mono ?_; rintro e v ⟨rfl, rfl⟩
    have hw5 : (decide ((0 : Int) ≤ x5) && decide (x5 ≤ blocks - 1)) = true := by simp; omega
    rw [hw5]
    go_wp2_with fail
    go_ret
    exact ⟨rfl, HB1.out⟩
  · skip
    have hx1 := hd0 rfl; subst hx1
    have hx2 := ha0 rfl; subst hx2
    have hx3 := hb0 rfl; subst hx3
    have hx5 := ht0 rfl; subst hx5
    have hx4 := hi0 rfl; subst hx4
    clear hd1 hd0 ha1 ha0 hb1 hb0 ht1 ht0 hi0
    go_enter Try.func28, Try.ntmps28
    go_upto_region 1 with (fail)
    have HX1 : Hid (CdAt (w.alloc (.cells #[.int .i64 x0, .int .i64 0, .int .i64 0, .int .i64 0, .int .u32 (0 : Nat), .int .i64 0] 68)) w.heap.size 0 ⟨x0, 0, 0, 0, 0, 0⟩) := HX
    have HB1 : Hid (Below w.heap.size w (w.alloc (.cells #[.int .i64 x0, .int .i64 0, .int .i64 0, .int .i64 0, .int .u32 (0 : Nat), .int .i64 0] 68))) := HB0
    clear HX HB0
    simp only [Int.natCast_zero] at HX1 HB1
    generalize w.alloc (.cells #[.int .i64 x0, .int .i64 0, .int .i64 0, .int .i64 0, .int .u32 0, .int .i64 0] 68) = w0 at *
    generalize hq : w.heap.size = q at HX1
    obtain ⟨c0, c1, c2, c3, c4, c5⟩ := cell_six_in0 HX1.out
    simp only at c0 c1 c2 c3 c4 c5
    subst hq
    clear HX1
    go_wp2_with fail
    refine (HW.out _ _ _ _).mono ?_; rintro e v ⟨rfl, rfl⟩
    have hdec : (decide ((0 : Int) ≤ x0) && decide (x0 ≤ 27)) = true := by simp; omega
    rw [hdec]
    go_wp2_with fail
    refine (HH.out _).mono ?_; rintro e v ⟨rfl, rfl⟩
    go_wp2_with fail
    refine (HM.out _).mono ?_; rintro e v ⟨rfl, rfl⟩
    go_wp2_with fail
    go_ret
    exact ⟨rfl, HB1.out⟩
end Go.Proofs.Ytjfpaelmcepidaa.PK
