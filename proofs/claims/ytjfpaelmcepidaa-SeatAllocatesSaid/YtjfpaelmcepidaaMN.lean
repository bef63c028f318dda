/- The walk of the specification's isCode, at whatever instruction. -/
import Derived.Test.YtjfpaelmcepidaaMA
namespace Go.Proofs.Ytjfpaelmcepidaa.PK
open Go.RowKit

theorem wi_true (n lo hi : Int) : (decide (lo ≤ n) && decide (n ≤ hi - 1)) = wi n true lo hi := by
  unfold wi
  rw [if_pos rfl]
  congr 1
  exact decide_eq_decide.2 (by omega)
theorem wi_zero {n lo hi : Int} (h : n = 0) : wi n false lo hi = true := by unfold wi; rw [if_neg (by decide)]; exact decide_eq_true h
theorem wi_nonzero {n lo hi : Int} (h : ¬ n = 0) : wi n false lo hi = false := by unfold wi; rw [if_neg (by decide)]; exact decide_eq_false h
theorem rwithin_is {n lo hi : Int} {b : Bool} (h : wi n true lo hi = b) (w : World) : Calls Try.prog 26 #[.int .i64 n, .int .i64 lo, .int .i64 (hi - 1)] w fun e w' => e = .returned (.bool b) ∧ w = w' := by
  have := rwithin_any n lo (hi - 1) w
  rw [wi_true, h] at this
  exact this
set_option maxRecDepth 100000 in
set_option maxHeartbeats 8000000 in
theorem rCode_any (x : Cd) (regs blocks : Int) (hr : 0 ≤ regs ∧ regs ≤ 1000000) (hbk : 0 ≤ blocks ∧ blocks ≤ 1000000) (w : World) : Calls Try.prog 28 #[(.agg #[.int .i64 x.op, .int .i64 x.d, .int .i64 x.a, .int .i64 x.b, .int .u32 x.im, .int .i64 x.to]), .int .i64 regs, .int .i64 blocks] w fun e w' => e = .returned (.bool (isCodeB x regs blocks)) ∧ Below w.heap.size w w' := by
  have HB0 := Lib.hid ((Below.refl w.heap.size w).alloc (Nat.le_refl _) (.cells #[.int .i64 x.op, .int .i64 x.d, .int .i64 x.a, .int .i64 x.b, .int .u32 x.im, .int .i64 x.to] 68))
  have HX := Lib.hid (cdAt_new w x 68)
  have HH := Lib.hid (rhas_any x.op)
  have HM := Lib.hid (rMem20_any x.op)
  have HW := Lib.hid rwithin_any
  have HP := Lib.hid (fun (fo b1 b2 b3 b4 b5 : Bool) h0 h1 h2 h3 h4 h5 => @isCode_parts x regs blocks fo b1 b2 b3 b4 b5 h0 h1 h2 h3 h4 h5)
  have hlow : lowA x.op = if fM x.op then -1 else 0 := rfl
  have hfo : fO x.op = decide (0 ≤ x.op ∧ x.op ≤ 27) := rfl
  have hfl := flags x.op
  have HW1 := Lib.hid (fun b (h : wi x.d true 0 regs = b) => rwithin_is h)
  have HW2 := Lib.hid (fun b (h : wi x.a true (lowA x.op) regs = b) => rwithin_is h)
  have HW3 := Lib.hid (fun b (h : wi x.b true 0 regs = b) => rwithin_is h)
  have HW4 := Lib.hid (fun b (h : wi x.to true 0 blocks = b) => rwithin_is h)
  generalize isCodeB x regs blocks = RES at *
  obtain ⟨x0, x1, x2, x3, x4, x5⟩ := x
  simp only at HH HM HP HW1 HW2 HW3 HW4 hlow hfo hfl
  have HX : Hid (CdAt (w.alloc (.cells #[.int .i64 x0, .int .i64 x1, .int .i64 x2, .int .i64 x3, .int .u32 x4, .int .i64 x5] 68)) w.heap.size 0 ⟨x0, x1, x2, x3, x4, x5⟩) := HX
  have HB0 : Hid (Below w.heap.size w (w.alloc (.cells #[.int .i64 x0, .int .i64 x1, .int .i64 x2, .int .i64 x3, .int .u32 x4, .int .i64 x5] 68))) := HB0
  generalize fD x0 = bd at *
  generalize fA x0 = ba at *
  generalize fB x0 = bb at *
  generalize fI x0 = bi at *
  generalize fT x0 = bt at *
  generalize fM x0 = bm at *
  generalize lowA x0 = low at *
  generalize fO x0 = fo at *
  have HFo := Lib.hid hfo; clear hfo
  go_enter Try.func28, Try.ntmps28
  go_upto_region 1 with (fail)
  generalize w.alloc (.cells #[.int .i64 x0, .int .i64 x1, .int .i64 x2, .int .i64 x3, .int .u32 x4, .int .i64 x5] 68) = w0 at *
  generalize hq : w.heap.size = q at HX
  obtain ⟨c0, c1, c2, c3, c4, c5⟩ := cell_six_in0 HX.out
  simp only at c0 c1 c2 c3 c4 c5
  subst hq
  clear HX
  go_wp2_with fail
  refine (HW.out _ _ _ _).mono ?_; rintro e v ⟨rfl, rfl⟩
  by_cases hop : 0 ≤ x0 ∧ x0 ≤ 27
  rotate_left
  · have hdec : (decide ((0 : Int) ≤ x0) && decide (x0 ≤ 27)) = false := by
      rw [Bool.and_eq_false_iff]
      by_cases h : 0 ≤ x0
      · exact .inr (decide_eq_false (by omega))
      · exact .inl (decide_eq_false h)
    rw [hdec]
    have HFf : Hid (fo = false) := Lib.hid (HFo.out.trans (decide_eq_false hop))
    have HR : Hid (RES = false) := Lib.hid ((HP.out _ _ _ _ _ _ HFf.out rfl rfl rfl rfl rfl).trans (by simp))
    clear hop hfl hlow hdec
    go_wp2_with fail
    go_ret
    exact ⟨ret_bool HR.out.symm, HB0.out⟩
  have HFt : Hid (fo = true) := Lib.hid (HFo.out.trans (decide_eq_true hop))
  have hdec : (decide ((0 : Int) ≤ x0) && decide (x0 ≤ 27)) = true := by simp; omega
  rw [hdec]
  have hfl2 := hfl hop
  clear hfl hop hdec HFo HW
  rcases hfl2 with h | h | h | h | h | h | h | h <;> obtain ⟨rfl, rfl, rfl, rfl, rfl, rfl⟩ := h
  · have hl : low = 0 := hlow
    subst hl
    clear hlow
    go_wp2_with fail
    refine (HH.out _).mono ?_; rintro e v ⟨rfl, rfl⟩
    go_wp2_with fail
    refine (HM.out _).mono ?_; rintro e v ⟨rfl, rfl⟩
    go_wp2_with fail
    cases hd : wi x1 true (0) regs
    · have Hhd := Lib.hid hd; clear hd
      refine (HW1.out _ Hhd.out _).mono ?_; rintro e v ⟨rfl, rfl⟩
      have HR : Hid (RES = false) := Lib.hid ((HP.out _ _ _ _ _ _ HFt.out Hhd.out rfl rfl rfl rfl).trans (by simp))
      go_wp2_with fail
      go_ret
      exact ⟨ret_bool HR.out.symm, HB0.out⟩
    have Hhd := Lib.hid hd; clear hd
    refine (HW1.out _ Hhd.out _).mono ?_; rintro e v ⟨rfl, rfl⟩
    by_cases ha : x2 = 0
    rotate_left
    · have Hha := Lib.hid (wi_nonzero (lo := 0) (hi := regs) ha)
      have hhab : (x2 == 0) = false := beq_eq_false_iff_ne.2 ha
      have HR : Hid (RES = false) := Lib.hid ((HP.out _ _ _ _ _ _ HFt.out Hhd.out Hha.out rfl rfl rfl).trans (by simp))
      go_wp2_with fail
      go_ret
      exact ⟨ret_bool HR.out.symm, HB0.out⟩
    have Hha := Lib.hid (wi_zero (lo := 0) (hi := regs) ha)
    have hhab : (x2 == 0) = true := beq_iff_eq.2 ha
    by_cases hb : x3 = 0
    rotate_left
    · have Hhb := Lib.hid (wi_nonzero (lo := 0) (hi := regs) hb)
      have hhbb : (x3 == 0) = false := beq_eq_false_iff_ne.2 hb
      have HR : Hid (RES = false) := Lib.hid ((HP.out _ _ _ _ _ _ HFt.out Hhd.out Hha.out Hhb.out rfl rfl).trans (by simp))
      go_wp2_with fail
      go_ret
      exact ⟨ret_bool HR.out.symm, HB0.out⟩
    have Hhb := Lib.hid (wi_zero (lo := 0) (hi := regs) hb)
    have hhbb : (x3 == 0) = true := beq_iff_eq.2 hb
    by_cases ht : x5 = 0
    · have Hht := Lib.hid (wi_zero (lo := 0) (hi := blocks) ht)
      have htb : (x5 == 0) = true := beq_iff_eq.2 ht
      have HR : Hid (RES = true) := Lib.hid ((HP.out _ _ _ _ _ _ HFt.out Hhd.out Hha.out Hhb.out Hht.out (Bool.true_or _)).trans (by simp))
      go_wp2_with fail
      go_ret
      exact ⟨ret_bool HR.out.symm, HB0.out⟩
    · have Hht := Lib.hid (wi_nonzero (lo := 0) (hi := blocks) ht)
      have htb : (x5 == 0) = false := beq_eq_false_iff_ne.2 ht
      have HR : Hid (RES = false) := Lib.hid ((HP.out _ _ _ _ _ _ HFt.out Hhd.out Hha.out Hhb.out Hht.out (Bool.true_or _)).trans (by simp))
      go_wp2_with fail
      go_ret
      exact ⟨ret_bool HR.out.symm, HB0.out⟩
  · have hl : low = 0 := hlow
    subst hl
    clear hlow
    go_wp2_with fail
    refine (HH.out _).mono ?_; rintro e v ⟨rfl, rfl⟩
    go_wp2_with fail
    refine (HM.out _).mono ?_; rintro e v ⟨rfl, rfl⟩
    go_wp2_with fail
    cases hd : wi x1 true (0) regs
    · have Hhd := Lib.hid hd; clear hd
      refine (HW1.out _ Hhd.out _).mono ?_; rintro e v ⟨rfl, rfl⟩
      have HR : Hid (RES = false) := Lib.hid ((HP.out _ _ _ _ _ _ HFt.out Hhd.out rfl rfl rfl rfl).trans (by simp))
      go_wp2_with fail
      go_ret
      exact ⟨ret_bool HR.out.symm, HB0.out⟩
    have Hhd := Lib.hid hd; clear hd
    refine (HW1.out _ Hhd.out _).mono ?_; rintro e v ⟨rfl, rfl⟩
    go_wp2_with fail
    cases ha : wi x2 true (0) regs
    · have Hha := Lib.hid ha; clear ha
      refine (HW2.out _ Hha.out _).mono ?_; rintro e v ⟨rfl, rfl⟩
      have HR : Hid (RES = false) := Lib.hid ((HP.out _ _ _ _ _ _ HFt.out Hhd.out Hha.out rfl rfl rfl).trans (by simp))
      go_wp2_with fail
      go_ret
      exact ⟨ret_bool HR.out.symm, HB0.out⟩
    have Hha := Lib.hid ha; clear ha
    refine (HW2.out _ Hha.out _).mono ?_; rintro e v ⟨rfl, rfl⟩
    by_cases hb : x3 = 0
    rotate_left
    · have Hhb := Lib.hid (wi_nonzero (lo := 0) (hi := regs) hb)
      have hhbb : (x3 == 0) = false := beq_eq_false_iff_ne.2 hb
      have HR : Hid (RES = false) := Lib.hid ((HP.out _ _ _ _ _ _ HFt.out Hhd.out Hha.out Hhb.out rfl rfl).trans (by simp))
      go_wp2_with fail
      go_ret
      exact ⟨ret_bool HR.out.symm, HB0.out⟩
    have Hhb := Lib.hid (wi_zero (lo := 0) (hi := regs) hb)
    have hhbb : (x3 == 0) = true := beq_iff_eq.2 hb
    by_cases hi : x4 = 0
    rotate_left
    · have Hhi : Hid ((false || decide (x4 = 0)) = false) := Lib.hid (by rw [decide_eq_false hi]; rfl)
      have hib : ((x4 : Int) == 0) = false := beq_eq_false_iff_ne.2 (by omega)
      have hic : ¬ (x4 : Int) = 0 := by omega
      have HR : Hid (RES = false) := Lib.hid ((HP.out _ _ _ _ _ _ HFt.out Hhd.out Hha.out Hhb.out rfl Hhi.out).trans (by simp))
      go_wp2_with fail
      go_ret
      exact ⟨ret_bool HR.out.symm, HB0.out⟩
    have Hhi : Hid ((false || decide (x4 = 0)) = true) := Lib.hid (by rw [decide_eq_true hi]; rfl)
    have hib : ((x4 : Int) == 0) = true := beq_iff_eq.2 (by omega)
    have hic : (x4 : Int) = 0 := by omega
    by_cases ht : x5 = 0
    · have Hht := Lib.hid (wi_zero (lo := 0) (hi := blocks) ht)
      have htb : (x5 == 0) = true := beq_iff_eq.2 ht
      have HR : Hid (RES = true) := Lib.hid ((HP.out _ _ _ _ _ _ HFt.out Hhd.out Hha.out Hhb.out Hht.out Hhi.out).trans (by simp))
      go_wp2_with fail
      go_ret
      exact ⟨ret_bool HR.out.symm, HB0.out⟩
    · have Hht := Lib.hid (wi_nonzero (lo := 0) (hi := blocks) ht)
      have htb : (x5 == 0) = false := beq_eq_false_iff_ne.2 ht
      have HR : Hid (RES = false) := Lib.hid ((HP.out _ _ _ _ _ _ HFt.out Hhd.out Hha.out Hhb.out Hht.out Hhi.out).trans (by simp))
      go_wp2_with fail
      go_ret
      exact ⟨ret_bool HR.out.symm, HB0.out⟩
  · have hl : low = 0 := hlow
    subst hl
    clear hlow
    go_wp2_with fail
    refine (HH.out _).mono ?_; rintro e v ⟨rfl, rfl⟩
    go_wp2_with fail
    refine (HM.out _).mono ?_; rintro e v ⟨rfl, rfl⟩
    go_wp2_with fail
    cases hd : wi x1 true (0) regs
    · have Hhd := Lib.hid hd; clear hd
      refine (HW1.out _ Hhd.out _).mono ?_; rintro e v ⟨rfl, rfl⟩
      have HR : Hid (RES = false) := Lib.hid ((HP.out _ _ _ _ _ _ HFt.out Hhd.out rfl rfl rfl rfl).trans (by simp))
      go_wp2_with fail
      go_ret
      exact ⟨ret_bool HR.out.symm, HB0.out⟩
    have Hhd := Lib.hid hd; clear hd
    refine (HW1.out _ Hhd.out _).mono ?_; rintro e v ⟨rfl, rfl⟩
    go_wp2_with fail
    cases ha : wi x2 true (0) regs
    · have Hha := Lib.hid ha; clear ha
      refine (HW2.out _ Hha.out _).mono ?_; rintro e v ⟨rfl, rfl⟩
      have HR : Hid (RES = false) := Lib.hid ((HP.out _ _ _ _ _ _ HFt.out Hhd.out Hha.out rfl rfl rfl).trans (by simp))
      go_wp2_with fail
      go_ret
      exact ⟨ret_bool HR.out.symm, HB0.out⟩
    have Hha := Lib.hid ha; clear ha
    refine (HW2.out _ Hha.out _).mono ?_; rintro e v ⟨rfl, rfl⟩
    go_wp2_with fail
    cases hb : wi x3 true (0) regs
    · have Hhb := Lib.hid hb; clear hb
      refine (HW3.out _ Hhb.out _).mono ?_; rintro e v ⟨rfl, rfl⟩
      have HR : Hid (RES = false) := Lib.hid ((HP.out _ _ _ _ _ _ HFt.out Hhd.out Hha.out Hhb.out rfl rfl).trans (by simp))
      go_wp2_with fail
      go_ret
      exact ⟨ret_bool HR.out.symm, HB0.out⟩
    have Hhb := Lib.hid hb; clear hb
    refine (HW3.out _ Hhb.out _).mono ?_; rintro e v ⟨rfl, rfl⟩
    by_cases hi : x4 = 0
    rotate_left
    · have Hhi : Hid ((false || decide (x4 = 0)) = false) := Lib.hid (by rw [decide_eq_false hi]; rfl)
      have hib : ((x4 : Int) == 0) = false := beq_eq_false_iff_ne.2 (by omega)
      have hic : ¬ (x4 : Int) = 0 := by omega
      have HR : Hid (RES = false) := Lib.hid ((HP.out _ _ _ _ _ _ HFt.out Hhd.out Hha.out Hhb.out rfl Hhi.out).trans (by simp))
      go_wp2_with fail
      go_ret
      exact ⟨ret_bool HR.out.symm, HB0.out⟩
    have Hhi : Hid ((false || decide (x4 = 0)) = true) := Lib.hid (by rw [decide_eq_true hi]; rfl)
    have hib : ((x4 : Int) == 0) = true := beq_iff_eq.2 (by omega)
    have hic : (x4 : Int) = 0 := by omega
    by_cases ht : x5 = 0
    · have Hht := Lib.hid (wi_zero (lo := 0) (hi := blocks) ht)
      have htb : (x5 == 0) = true := beq_iff_eq.2 ht
      have HR : Hid (RES = true) := Lib.hid ((HP.out _ _ _ _ _ _ HFt.out Hhd.out Hha.out Hhb.out Hht.out Hhi.out).trans (by simp))
      go_wp2_with fail
      go_ret
      exact ⟨ret_bool HR.out.symm, HB0.out⟩
    · have Hht := Lib.hid (wi_nonzero (lo := 0) (hi := blocks) ht)
      have htb : (x5 == 0) = false := beq_eq_false_iff_ne.2 ht
      have HR : Hid (RES = false) := Lib.hid ((HP.out _ _ _ _ _ _ HFt.out Hhd.out Hha.out Hhb.out Hht.out Hhi.out).trans (by simp))
      go_wp2_with fail
      go_ret
      exact ⟨ret_bool HR.out.symm, HB0.out⟩
  · have hl : low = -1 := hlow
    subst hl
    clear hlow
    go_wp2_with fail
    refine (HH.out _).mono ?_; rintro e v ⟨rfl, rfl⟩
    go_wp2_with fail
    refine (HM.out _).mono ?_; rintro e v ⟨rfl, rfl⟩
    go_wp2_with fail
    cases hd : wi x1 true (0) regs
    · have Hhd := Lib.hid hd; clear hd
      refine (HW1.out _ Hhd.out _).mono ?_; rintro e v ⟨rfl, rfl⟩
      have HR : Hid (RES = false) := Lib.hid ((HP.out _ _ _ _ _ _ HFt.out Hhd.out rfl rfl rfl rfl).trans (by simp))
      go_wp2_with fail
      go_ret
      exact ⟨ret_bool HR.out.symm, HB0.out⟩
    have Hhd := Lib.hid hd; clear hd
    refine (HW1.out _ Hhd.out _).mono ?_; rintro e v ⟨rfl, rfl⟩
    go_wp2_with fail
    cases ha : wi x2 true (-1) regs
    · have Hha := Lib.hid ha; clear ha
      refine (HW2.out _ Hha.out _).mono ?_; rintro e v ⟨rfl, rfl⟩
      have HR : Hid (RES = false) := Lib.hid ((HP.out _ _ _ _ _ _ HFt.out Hhd.out Hha.out rfl rfl rfl).trans (by simp))
      go_wp2_with fail
      go_ret
      exact ⟨ret_bool HR.out.symm, HB0.out⟩
    have Hha := Lib.hid ha; clear ha
    refine (HW2.out _ Hha.out _).mono ?_; rintro e v ⟨rfl, rfl⟩
    by_cases hb : x3 = 0
    rotate_left
    · have Hhb := Lib.hid (wi_nonzero (lo := 0) (hi := regs) hb)
      have hhbb : (x3 == 0) = false := beq_eq_false_iff_ne.2 hb
      have HR : Hid (RES = false) := Lib.hid ((HP.out _ _ _ _ _ _ HFt.out Hhd.out Hha.out Hhb.out rfl rfl).trans (by simp))
      go_wp2_with fail
      go_ret
      exact ⟨ret_bool HR.out.symm, HB0.out⟩
    have Hhb := Lib.hid (wi_zero (lo := 0) (hi := regs) hb)
    have hhbb : (x3 == 0) = true := beq_iff_eq.2 hb
    by_cases ht : x5 = 0
    · have Hht := Lib.hid (wi_zero (lo := 0) (hi := blocks) ht)
      have htb : (x5 == 0) = true := beq_iff_eq.2 ht
      have HR : Hid (RES = true) := Lib.hid ((HP.out _ _ _ _ _ _ HFt.out Hhd.out Hha.out Hhb.out Hht.out (Bool.true_or _)).trans (by simp))
      go_wp2_with fail
      go_ret
      exact ⟨ret_bool HR.out.symm, HB0.out⟩
    · have Hht := Lib.hid (wi_nonzero (lo := 0) (hi := blocks) ht)
      have htb : (x5 == 0) = false := beq_eq_false_iff_ne.2 ht
      have HR : Hid (RES = false) := Lib.hid ((HP.out _ _ _ _ _ _ HFt.out Hhd.out Hha.out Hhb.out Hht.out (Bool.true_or _)).trans (by simp))
      go_wp2_with fail
      go_ret
      exact ⟨ret_bool HR.out.symm, HB0.out⟩
  · have hl : low = -1 := hlow
    subst hl
    clear hlow
    go_wp2_with fail
    refine (HH.out _).mono ?_; rintro e v ⟨rfl, rfl⟩
    go_wp2_with fail
    refine (HM.out _).mono ?_; rintro e v ⟨rfl, rfl⟩
    by_cases hd : x1 = 0
    rotate_left
    · have Hhd := Lib.hid (wi_nonzero (lo := 0) (hi := regs) hd)
      have hhdb : (x1 == 0) = false := beq_eq_false_iff_ne.2 hd
      have HR : Hid (RES = false) := Lib.hid ((HP.out _ _ _ _ _ _ HFt.out Hhd.out rfl rfl rfl rfl).trans (by simp))
      go_wp2_with fail
      go_ret
      exact ⟨ret_bool HR.out.symm, HB0.out⟩
    have Hhd := Lib.hid (wi_zero (lo := 0) (hi := regs) hd)
    have hhdb : (x1 == 0) = true := beq_iff_eq.2 hd
    go_wp2_with fail
    cases ha : wi x2 true (-1) regs
    · have Hha := Lib.hid ha; clear ha
      refine (HW2.out _ Hha.out _).mono ?_; rintro e v ⟨rfl, rfl⟩
      have HR : Hid (RES = false) := Lib.hid ((HP.out _ _ _ _ _ _ HFt.out Hhd.out Hha.out rfl rfl rfl).trans (by simp))
      go_wp2_with fail
      go_ret
      exact ⟨ret_bool HR.out.symm, HB0.out⟩
    have Hha := Lib.hid ha; clear ha
    refine (HW2.out _ Hha.out _).mono ?_; rintro e v ⟨rfl, rfl⟩
    go_wp2_with fail
    cases hb : wi x3 true (0) regs
    · have Hhb := Lib.hid hb; clear hb
      refine (HW3.out _ Hhb.out _).mono ?_; rintro e v ⟨rfl, rfl⟩
      have HR : Hid (RES = false) := Lib.hid ((HP.out _ _ _ _ _ _ HFt.out Hhd.out Hha.out Hhb.out rfl rfl).trans (by simp))
      go_wp2_with fail
      go_ret
      exact ⟨ret_bool HR.out.symm, HB0.out⟩
    have Hhb := Lib.hid hb; clear hb
    refine (HW3.out _ Hhb.out _).mono ?_; rintro e v ⟨rfl, rfl⟩
    by_cases ht : x5 = 0
    · have Hht := Lib.hid (wi_zero (lo := 0) (hi := blocks) ht)
      have htb : (x5 == 0) = true := beq_iff_eq.2 ht
      have HR : Hid (RES = true) := Lib.hid ((HP.out _ _ _ _ _ _ HFt.out Hhd.out Hha.out Hhb.out Hht.out (Bool.true_or _)).trans (by simp))
      go_wp2_with fail
      go_ret
      exact ⟨ret_bool HR.out.symm, HB0.out⟩
    · have Hht := Lib.hid (wi_nonzero (lo := 0) (hi := blocks) ht)
      have htb : (x5 == 0) = false := beq_eq_false_iff_ne.2 ht
      have HR : Hid (RES = false) := Lib.hid ((HP.out _ _ _ _ _ _ HFt.out Hhd.out Hha.out Hhb.out Hht.out (Bool.true_or _)).trans (by simp))
      go_wp2_with fail
      go_ret
      exact ⟨ret_bool HR.out.symm, HB0.out⟩
  · have hl : low = 0 := hlow
    subst hl
    clear hlow
    go_wp2_with fail
    refine (HH.out _).mono ?_; rintro e v ⟨rfl, rfl⟩
    go_wp2_with fail
    refine (HM.out _).mono ?_; rintro e v ⟨rfl, rfl⟩
    by_cases hd : x1 = 0
    rotate_left
    · have Hhd := Lib.hid (wi_nonzero (lo := 0) (hi := regs) hd)
      have hhdb : (x1 == 0) = false := beq_eq_false_iff_ne.2 hd
      have HR : Hid (RES = false) := Lib.hid ((HP.out _ _ _ _ _ _ HFt.out Hhd.out rfl rfl rfl rfl).trans (by simp))
      go_wp2_with fail
      go_ret
      exact ⟨ret_bool HR.out.symm, HB0.out⟩
    have Hhd := Lib.hid (wi_zero (lo := 0) (hi := regs) hd)
    have hhdb : (x1 == 0) = true := beq_iff_eq.2 hd
    by_cases ha : x2 = 0
    rotate_left
    · have Hha := Lib.hid (wi_nonzero (lo := 0) (hi := regs) ha)
      have hhab : (x2 == 0) = false := beq_eq_false_iff_ne.2 ha
      have HR : Hid (RES = false) := Lib.hid ((HP.out _ _ _ _ _ _ HFt.out Hhd.out Hha.out rfl rfl rfl).trans (by simp))
      go_wp2_with fail
      go_ret
      exact ⟨ret_bool HR.out.symm, HB0.out⟩
    have Hha := Lib.hid (wi_zero (lo := 0) (hi := regs) ha)
    have hhab : (x2 == 0) = true := beq_iff_eq.2 ha
    by_cases hb : x3 = 0
    rotate_left
    · have Hhb := Lib.hid (wi_nonzero (lo := 0) (hi := regs) hb)
      have hhbb : (x3 == 0) = false := beq_eq_false_iff_ne.2 hb
      have HR : Hid (RES = false) := Lib.hid ((HP.out _ _ _ _ _ _ HFt.out Hhd.out Hha.out Hhb.out rfl rfl).trans (by simp))
      go_wp2_with fail
      go_ret
      exact ⟨ret_bool HR.out.symm, HB0.out⟩
    have Hhb := Lib.hid (wi_zero (lo := 0) (hi := regs) hb)
    have hhbb : (x3 == 0) = true := beq_iff_eq.2 hb
    by_cases hi : x4 = 0
    rotate_left
    · have Hhi : Hid ((false || decide (x4 = 0)) = false) := Lib.hid (by rw [decide_eq_false hi]; rfl)
      have hib : ((x4 : Int) == 0) = false := beq_eq_false_iff_ne.2 (by omega)
      have hic : ¬ (x4 : Int) = 0 := by omega
      have HR : Hid (RES = false) := Lib.hid ((HP.out _ _ _ _ _ _ HFt.out Hhd.out Hha.out Hhb.out rfl Hhi.out).trans (by simp))
      go_wp2_with fail
      go_ret
      exact ⟨ret_bool HR.out.symm, HB0.out⟩
    have Hhi : Hid ((false || decide (x4 = 0)) = true) := Lib.hid (by rw [decide_eq_true hi]; rfl)
    have hib : ((x4 : Int) == 0) = true := beq_iff_eq.2 (by omega)
    have hic : (x4 : Int) = 0 := by omega
    go_wp2_with fail
    cases ht : wi x5 true 0 blocks
    · have Hht := Lib.hid ht; clear ht
      refine (HW4.out _ Hht.out _).mono ?_; rintro e v ⟨rfl, rfl⟩
      have HR : Hid (RES = false) := Lib.hid ((HP.out _ _ _ _ _ _ HFt.out Hhd.out Hha.out Hhb.out Hht.out Hhi.out).trans (by simp))
      go_wp2_with fail
      go_ret
      exact ⟨ret_bool HR.out.symm, HB0.out⟩
    · have Hht := Lib.hid ht; clear ht
      refine (HW4.out _ Hht.out _).mono ?_; rintro e v ⟨rfl, rfl⟩
      have HR : Hid (RES = true) := Lib.hid ((HP.out _ _ _ _ _ _ HFt.out Hhd.out Hha.out Hhb.out Hht.out Hhi.out).trans (by simp))
      go_wp2_with fail
      go_ret
      exact ⟨ret_bool HR.out.symm, HB0.out⟩
  · have hl : low = 0 := hlow
    subst hl
    clear hlow
    go_wp2_with fail
    refine (HH.out _).mono ?_; rintro e v ⟨rfl, rfl⟩
    go_wp2_with fail
    refine (HM.out _).mono ?_; rintro e v ⟨rfl, rfl⟩
    by_cases hd : x1 = 0
    rotate_left
    · have Hhd := Lib.hid (wi_nonzero (lo := 0) (hi := regs) hd)
      have hhdb : (x1 == 0) = false := beq_eq_false_iff_ne.2 hd
      have HR : Hid (RES = false) := Lib.hid ((HP.out _ _ _ _ _ _ HFt.out Hhd.out rfl rfl rfl rfl).trans (by simp))
      go_wp2_with fail
      go_ret
      exact ⟨ret_bool HR.out.symm, HB0.out⟩
    have Hhd := Lib.hid (wi_zero (lo := 0) (hi := regs) hd)
    have hhdb : (x1 == 0) = true := beq_iff_eq.2 hd
    go_wp2_with fail
    cases ha : wi x2 true (0) regs
    · have Hha := Lib.hid ha; clear ha
      refine (HW2.out _ Hha.out _).mono ?_; rintro e v ⟨rfl, rfl⟩
      have HR : Hid (RES = false) := Lib.hid ((HP.out _ _ _ _ _ _ HFt.out Hhd.out Hha.out rfl rfl rfl).trans (by simp))
      go_wp2_with fail
      go_ret
      exact ⟨ret_bool HR.out.symm, HB0.out⟩
    have Hha := Lib.hid ha; clear ha
    refine (HW2.out _ Hha.out _).mono ?_; rintro e v ⟨rfl, rfl⟩
    by_cases hb : x3 = 0
    rotate_left
    · have Hhb := Lib.hid (wi_nonzero (lo := 0) (hi := regs) hb)
      have hhbb : (x3 == 0) = false := beq_eq_false_iff_ne.2 hb
      have HR : Hid (RES = false) := Lib.hid ((HP.out _ _ _ _ _ _ HFt.out Hhd.out Hha.out Hhb.out rfl rfl).trans (by simp))
      go_wp2_with fail
      go_ret
      exact ⟨ret_bool HR.out.symm, HB0.out⟩
    have Hhb := Lib.hid (wi_zero (lo := 0) (hi := regs) hb)
    have hhbb : (x3 == 0) = true := beq_iff_eq.2 hb
    by_cases hi : x4 = 0
    rotate_left
    · have Hhi : Hid ((false || decide (x4 = 0)) = false) := Lib.hid (by rw [decide_eq_false hi]; rfl)
      have hib : ((x4 : Int) == 0) = false := beq_eq_false_iff_ne.2 (by omega)
      have hic : ¬ (x4 : Int) = 0 := by omega
      have HR : Hid (RES = false) := Lib.hid ((HP.out _ _ _ _ _ _ HFt.out Hhd.out Hha.out Hhb.out rfl Hhi.out).trans (by simp))
      go_wp2_with fail
      go_ret
      exact ⟨ret_bool HR.out.symm, HB0.out⟩
    have Hhi : Hid ((false || decide (x4 = 0)) = true) := Lib.hid (by rw [decide_eq_true hi]; rfl)
    have hib : ((x4 : Int) == 0) = true := beq_iff_eq.2 (by omega)
    have hic : (x4 : Int) = 0 := by omega
    go_wp2_with fail
    cases ht : wi x5 true 0 blocks
    · have Hht := Lib.hid ht; clear ht
      refine (HW4.out _ Hht.out _).mono ?_; rintro e v ⟨rfl, rfl⟩
      have HR : Hid (RES = false) := Lib.hid ((HP.out _ _ _ _ _ _ HFt.out Hhd.out Hha.out Hhb.out Hht.out Hhi.out).trans (by simp))
      go_wp2_with fail
      go_ret
      exact ⟨ret_bool HR.out.symm, HB0.out⟩
    · have Hht := Lib.hid ht; clear ht
      refine (HW4.out _ Hht.out _).mono ?_; rintro e v ⟨rfl, rfl⟩
      have HR : Hid (RES = true) := Lib.hid ((HP.out _ _ _ _ _ _ HFt.out Hhd.out Hha.out Hhb.out Hht.out Hhi.out).trans (by simp))
      go_wp2_with fail
      go_ret
      exact ⟨ret_bool HR.out.symm, HB0.out⟩
  · have hl : low = 0 := hlow
    subst hl
    clear hlow
    go_wp2_with fail
    refine (HH.out _).mono ?_; rintro e v ⟨rfl, rfl⟩
    go_wp2_with fail
    refine (HM.out _).mono ?_; rintro e v ⟨rfl, rfl⟩
    by_cases hd : x1 = 0
    rotate_left
    · have Hhd := Lib.hid (wi_nonzero (lo := 0) (hi := regs) hd)
      have hhdb : (x1 == 0) = false := beq_eq_false_iff_ne.2 hd
      have HR : Hid (RES = false) := Lib.hid ((HP.out _ _ _ _ _ _ HFt.out Hhd.out rfl rfl rfl rfl).trans (by simp))
      go_wp2_with fail
      go_ret
      exact ⟨ret_bool HR.out.symm, HB0.out⟩
    have Hhd := Lib.hid (wi_zero (lo := 0) (hi := regs) hd)
    have hhdb : (x1 == 0) = true := beq_iff_eq.2 hd
    by_cases ha : x2 = 0
    rotate_left
    · have Hha := Lib.hid (wi_nonzero (lo := 0) (hi := regs) ha)
      have hhab : (x2 == 0) = false := beq_eq_false_iff_ne.2 ha
      have HR : Hid (RES = false) := Lib.hid ((HP.out _ _ _ _ _ _ HFt.out Hhd.out Hha.out rfl rfl rfl).trans (by simp))
      go_wp2_with fail
      go_ret
      exact ⟨ret_bool HR.out.symm, HB0.out⟩
    have Hha := Lib.hid (wi_zero (lo := 0) (hi := regs) ha)
    have hhab : (x2 == 0) = true := beq_iff_eq.2 ha
    by_cases hb : x3 = 0
    rotate_left
    · have Hhb := Lib.hid (wi_nonzero (lo := 0) (hi := regs) hb)
      have hhbb : (x3 == 0) = false := beq_eq_false_iff_ne.2 hb
      have HR : Hid (RES = false) := Lib.hid ((HP.out _ _ _ _ _ _ HFt.out Hhd.out Hha.out Hhb.out rfl rfl).trans (by simp))
      go_wp2_with fail
      go_ret
      exact ⟨ret_bool HR.out.symm, HB0.out⟩
    have Hhb := Lib.hid (wi_zero (lo := 0) (hi := regs) hb)
    have hhbb : (x3 == 0) = true := beq_iff_eq.2 hb
    by_cases hi : x4 = 0
    rotate_left
    · have Hhi : Hid ((false || decide (x4 = 0)) = false) := Lib.hid (by rw [decide_eq_false hi]; rfl)
      have hib : ((x4 : Int) == 0) = false := beq_eq_false_iff_ne.2 (by omega)
      have hic : ¬ (x4 : Int) = 0 := by omega
      have HR : Hid (RES = false) := Lib.hid ((HP.out _ _ _ _ _ _ HFt.out Hhd.out Hha.out Hhb.out rfl Hhi.out).trans (by simp))
      go_wp2_with fail
      go_ret
      exact ⟨ret_bool HR.out.symm, HB0.out⟩
    have Hhi : Hid ((false || decide (x4 = 0)) = true) := Lib.hid (by rw [decide_eq_true hi]; rfl)
    have hib : ((x4 : Int) == 0) = true := beq_iff_eq.2 (by omega)
    have hic : (x4 : Int) = 0 := by omega
    by_cases ht : x5 = 0
    · have Hht := Lib.hid (wi_zero (lo := 0) (hi := blocks) ht)
      have htb : (x5 == 0) = true := beq_iff_eq.2 ht
      have HR : Hid (RES = true) := Lib.hid ((HP.out _ _ _ _ _ _ HFt.out Hhd.out Hha.out Hhb.out Hht.out Hhi.out).trans (by simp))
      go_wp2_with fail
      go_ret
      exact ⟨ret_bool HR.out.symm, HB0.out⟩
    · have Hht := Lib.hid (wi_nonzero (lo := 0) (hi := blocks) ht)
      have htb : (x5 == 0) = false := beq_eq_false_iff_ne.2 ht
      have HR : Hid (RES = false) := Lib.hid ((HP.out _ _ _ _ _ _ HFt.out Hhd.out Hha.out Hhb.out Hht.out Hhi.out).trans (by simp))
      go_wp2_with fail
      go_ret
      exact ⟨ret_bool HR.out.symm, HB0.out⟩
end Go.Proofs.Ytjfpaelmcepidaa.PK
