/- Packed of several texts. -/
import Derived.Test.YtpdbokbmchlgpaaGreatK01
namespace Go.Proofs.YtpdbokbmchlgpaaGreat.PK
open Go.RowKit

theorem isCode_parts {x : Cd} {regs blocks : Int} {fo b1 b2 b3 b4 b5 : Bool} (h0 : fO x.op = fo) (h1 : wi x.d (fD x.op) 0 regs = b1) (h2 : wi x.a (fA x.op) (lowA x.op) regs = b2) (h3 : wi x.b (fB x.op) 0 regs = b3) (h4 : wi x.to (fT x.op) 0 blocks = b4) (h5 : (fI x.op || decide (x.im = 0)) = b5) :
    isCodeB x regs blocks = (fo && (b1 && (b2 && (b3 && (b4 && b5))))) := by
  unfold isCodeB
  rw [h0, h1, h2, h3, h4, h5]
set_option maxRecDepth 100000 in
set_option maxHeartbeats 2000000 in
theorem isCode_any (x : Cd) (regs blocks : Int) (w : World) : Calls Tryz.prog 91 #[(.agg #[.int .i64 x.op, .int .i64 x.d, .int .i64 x.a, .int .i64 x.b, .int .u32 x.im, .int .i64 x.to]), .int .i64 regs, .int .i64 blocks] w fun e w' => e = .returned (.bool (isCodeB x regs blocks)) ∧ Below w.heap.size w w' := by
  have HF := Lib.hid (fieldsOf_any x.op)
  have HB0 := Lib.hid ((Below.refl w.heap.size w).alloc (Nat.le_refl _) (.cells #[.int .i64 x.op, .int .i64 x.d, .int .i64 x.a, .int .i64 x.b, .int .u32 x.im, .int .i64 x.to] 88))
  have HX := Lib.hid (cdAt_new w x 88)
  have HP := Lib.hid (fun (fo b1 b2 b3 b4 b5 : Bool) h0 h1 h2 h3 h4 h5 => @isCode_parts x regs blocks fo b1 b2 b3 b4 b5 h0 h1 h2 h3 h4 h5)
  unfold fieldsV at HF
  have hlow : lowA x.op = if fM x.op then -1 else 0 := rfl
  have HW1 := Lib.hid (fun b (h : wi x.d (fD x.op) 0 regs = b) => within_is h)
  have HW2 := Lib.hid (fun b (h : wi x.a (fA x.op) (lowA x.op) regs = b) => within_is h)
  have HW3 := Lib.hid (fun b (h : wi x.b (fB x.op) 0 regs = b) => within_is h)
  have HW4 := Lib.hid (fun b (h : wi x.to (fT x.op) 0 blocks = b) => within_is h)
  have HLow := Lib.hid hlow
  clear hlow
  generalize isCodeB x regs blocks = RES at *
  obtain ⟨x0, x1, x2, x3, x4, x5⟩ := x
  simp only at HF HP HW1 HW2 HW3 HW4 HLow
  have HX : Hid (CdAt (w.alloc (.cells #[.int .i64 x0, .int .i64 x1, .int .i64 x2, .int .i64 x3, .int .u32 x4, .int .i64 x5] 88)) w.heap.size 0 ⟨x0, x1, x2, x3, x4, x5⟩) := HX
  have HB0 : Hid (Below w.heap.size w (w.alloc (.cells #[.int .i64 x0, .int .i64 x1, .int .i64 x2, .int .i64 x3, .int .u32 x4, .int .i64 x5] 88))) := HB0
  generalize fD x0 = fd at *
  generalize fA x0 = fa at *
  generalize fB x0 = fb at *
  generalize fI x0 = fi at *
  generalize fT x0 = ft at *
  generalize fM x0 = fm at *
  generalize hfo : fO x0 = fo at *
  generalize lowA x0 = low at *
  have HFo := Lib.hid hfo; clear hfo
  cases fm
  · have hlow : low = 0 := HLow.out
    subst hlow
    cases fo
    · have HR : Hid (RES = false) := Lib.hid (HP.out _ _ _ _ _ _ rfl rfl rfl rfl rfl rfl)
      go_enter Tryz.func91, Tryz.ntmps91
      go_wp2_with fail
      generalize w.alloc (.cells #[.int .i64 x0, .int .i64 x1, .int .i64 x2, .int .i64 x3, .int .u32 x4, .int .i64 x5] 88) = w0 at *
      refine (HF.out w0).mono ?_; rintro e w1 ⟨rfl, hb1⟩
      have HB1 := Lib.hid ((HB0.out.trans (hb1.mono HB0.out.size)).alloc (Nat.le_trans HB0.out.size hb1.size) (.cells #[.bool fd, .bool fa, .bool fb, .bool fi, .bool ft, .bool false] 177))
      have hal := hb1.alloc hb1.size (.cells #[.bool fd, .bool fa, .bool fb, .bool fi, .bool ft, .bool false] 177)
      obtain ⟨c0, c1, c2, c3, c4, c5⟩ := HX.out.keep hal
      simp only at c0 c1 c2 c3 c4 c5
      clear hb1 hal
      go_wp2_with fail
      go_ret
      exact ⟨ret_bool HR.out.symm, HB1.out⟩
    by_cases hd : wi x1 fd 0 regs = true
    rotate_left
    · have hdf : wi x1 fd 0 regs = false := by simpa using hd
      have HR : Hid (RES = false) := Lib.hid ((HP.out _ _ _ _ _ _ rfl hdf rfl rfl rfl rfl).trans (by simp))
      have HD := Lib.hid (HW1.out _ hdf)
      clear hd hdf
      go_enter Tryz.func91, Tryz.ntmps91
      go_wp2_with fail
      generalize w.alloc (.cells #[.int .i64 x0, .int .i64 x1, .int .i64 x2, .int .i64 x3, .int .u32 x4, .int .i64 x5] 88) = w0 at *
      refine (HF.out w0).mono ?_; rintro e w1 ⟨rfl, hb1⟩
      have HB1 := Lib.hid ((HB0.out.trans (hb1.mono HB0.out.size)).alloc (Nat.le_trans HB0.out.size hb1.size) (.cells #[.bool fd, .bool fa, .bool fb, .bool fi, .bool ft, .bool false] 177))
      have hal := hb1.alloc hb1.size (.cells #[.bool fd, .bool fa, .bool fb, .bool fi, .bool ft, .bool false] 177)
      obtain ⟨c0, c1, c2, c3, c4, c5⟩ := HX.out.keep hal
      simp only at c0 c1 c2 c3 c4 c5
      clear hb1 hal
      go_wp2_with fail
      refine (HD.out _).mono ?_; rintro e w2 ⟨rfl, rfl⟩
      go_wp2_with fail
      go_ret
      exact ⟨ret_bool HR.out.symm, HB1.out⟩
    have HD := Lib.hid (HW1.out _ hd)
    by_cases ha : wi x2 fa (0) regs = true
    rotate_left
    · have haf : wi x2 fa (0) regs = false := by simpa using ha
      have HR : Hid (RES = false) := Lib.hid ((HP.out _ _ _ _ _ _ rfl hd haf rfl rfl rfl).trans (by simp))
      have HA := Lib.hid (HW2.out _ haf)
      clear ha haf hd
      go_enter Tryz.func91, Tryz.ntmps91
      go_wp2_with fail
      generalize w.alloc (.cells #[.int .i64 x0, .int .i64 x1, .int .i64 x2, .int .i64 x3, .int .u32 x4, .int .i64 x5] 88) = w0 at *
      refine (HF.out w0).mono ?_; rintro e w1 ⟨rfl, hb1⟩
      have HB1 := Lib.hid ((HB0.out.trans (hb1.mono HB0.out.size)).alloc (Nat.le_trans HB0.out.size hb1.size) (.cells #[.bool fd, .bool fa, .bool fb, .bool fi, .bool ft, .bool false] 177))
      have hal := hb1.alloc hb1.size (.cells #[.bool fd, .bool fa, .bool fb, .bool fi, .bool ft, .bool false] 177)
      obtain ⟨c0, c1, c2, c3, c4, c5⟩ := HX.out.keep hal
      simp only at c0 c1 c2 c3 c4 c5
      clear hb1 hal
      go_wp2_with fail
      refine (HD.out _).mono ?_; rintro e w2 ⟨rfl, rfl⟩
      go_wp2_with fail
      refine (HA.out _).mono ?_; rintro e w2 ⟨rfl, rfl⟩
      go_wp2_with fail
      go_ret
      exact ⟨ret_bool HR.out.symm, HB1.out⟩
    have HA := Lib.hid (HW2.out _ ha)
    by_cases hb : wi x3 fb 0 regs = true
    rotate_left
    · have hbf : wi x3 fb 0 regs = false := by simpa using hb
      have HR : Hid (RES = false) := Lib.hid ((HP.out _ _ _ _ _ _ rfl hd ha hbf rfl rfl).trans (by simp))
      have HBb := Lib.hid (HW3.out _ hbf)
      clear hb hbf hd ha
      go_enter Tryz.func91, Tryz.ntmps91
      go_wp2_with fail
      generalize w.alloc (.cells #[.int .i64 x0, .int .i64 x1, .int .i64 x2, .int .i64 x3, .int .u32 x4, .int .i64 x5] 88) = w0 at *
      refine (HF.out w0).mono ?_; rintro e w1 ⟨rfl, hb1⟩
      have HB1 := Lib.hid ((HB0.out.trans (hb1.mono HB0.out.size)).alloc (Nat.le_trans HB0.out.size hb1.size) (.cells #[.bool fd, .bool fa, .bool fb, .bool fi, .bool ft, .bool false] 177))
      have hal := hb1.alloc hb1.size (.cells #[.bool fd, .bool fa, .bool fb, .bool fi, .bool ft, .bool false] 177)
      obtain ⟨c0, c1, c2, c3, c4, c5⟩ := HX.out.keep hal
      simp only at c0 c1 c2 c3 c4 c5
      clear hb1 hal
      go_wp2_with fail
      refine (HD.out _).mono ?_; rintro e w2 ⟨rfl, rfl⟩
      go_wp2_with fail
      refine (HA.out _).mono ?_; rintro e w2 ⟨rfl, rfl⟩
      go_wp2_with fail
      refine (HBb.out _).mono ?_; rintro e w2 ⟨rfl, rfl⟩
      go_wp2_with fail
      go_ret
      exact ⟨ret_bool HR.out.symm, HB1.out⟩
    have HBb := Lib.hid (HW3.out _ hb)
    by_cases ht : wi x5 ft 0 blocks = true
    rotate_left
    · have htf : wi x5 ft 0 blocks = false := by simpa using ht
      have HR : Hid (RES = false) := Lib.hid ((HP.out _ _ _ _ _ _ rfl hd ha hb htf rfl).trans (by simp))
      have HT := Lib.hid (HW4.out _ htf)
      clear ht htf hd ha hb
      go_enter Tryz.func91, Tryz.ntmps91
      go_wp2_with fail
      generalize w.alloc (.cells #[.int .i64 x0, .int .i64 x1, .int .i64 x2, .int .i64 x3, .int .u32 x4, .int .i64 x5] 88) = w0 at *
      refine (HF.out w0).mono ?_; rintro e w1 ⟨rfl, hb1⟩
      have HB1 := Lib.hid ((HB0.out.trans (hb1.mono HB0.out.size)).alloc (Nat.le_trans HB0.out.size hb1.size) (.cells #[.bool fd, .bool fa, .bool fb, .bool fi, .bool ft, .bool false] 177))
      have hal := hb1.alloc hb1.size (.cells #[.bool fd, .bool fa, .bool fb, .bool fi, .bool ft, .bool false] 177)
      obtain ⟨c0, c1, c2, c3, c4, c5⟩ := HX.out.keep hal
      simp only at c0 c1 c2 c3 c4 c5
      clear hb1 hal
      go_wp2_with fail
      refine (HD.out _).mono ?_; rintro e w2 ⟨rfl, rfl⟩
      go_wp2_with fail
      refine (HA.out _).mono ?_; rintro e w2 ⟨rfl, rfl⟩
      go_wp2_with fail
      refine (HBb.out _).mono ?_; rintro e w2 ⟨rfl, rfl⟩
      go_wp2_with fail
      refine (HT.out _).mono ?_; rintro e w2 ⟨rfl, rfl⟩
      go_wp2_with fail
      go_ret
      exact ⟨ret_bool HR.out.symm, HB1.out⟩
    have HT := Lib.hid (HW4.out _ ht)
    cases fi
    · by_cases h4 : x4 = 0
      · have HR : Hid (RES = true) := Lib.hid ((HP.out _ _ _ _ _ _ rfl hd ha hb ht rfl).trans (by simp [h4]))
        have n4 : ((x4 : Int) == 0) = true := by rw [h4]; rfl
        clear hd ha hb ht h4
        go_enter Tryz.func91, Tryz.ntmps91
        go_wp2_with fail
        generalize w.alloc (.cells #[.int .i64 x0, .int .i64 x1, .int .i64 x2, .int .i64 x3, .int .u32 x4, .int .i64 x5] 88) = w0 at *
        refine (HF.out w0).mono ?_; rintro e w1 ⟨rfl, hb1⟩
        have HB1 := Lib.hid ((HB0.out.trans (hb1.mono HB0.out.size)).alloc (Nat.le_trans HB0.out.size hb1.size) (.cells #[.bool fd, .bool fa, .bool fb, .bool false, .bool ft, .bool false] 177))
        have hal := hb1.alloc hb1.size (.cells #[.bool fd, .bool fa, .bool fb, .bool false, .bool ft, .bool false] 177)
        obtain ⟨c0, c1, c2, c3, c4, c5⟩ := HX.out.keep hal
        simp only at c0 c1 c2 c3 c4 c5
        clear hb1 hal
        go_wp2_with fail
        refine (HD.out _).mono ?_; rintro e w2 ⟨rfl, rfl⟩
        go_wp2_with fail
        refine (HA.out _).mono ?_; rintro e w2 ⟨rfl, rfl⟩
        go_wp2_with fail
        refine (HBb.out _).mono ?_; rintro e w2 ⟨rfl, rfl⟩
        go_wp2_with fail
        refine (HT.out _).mono ?_; rintro e w2 ⟨rfl, rfl⟩
        go_wp2_with fail
        go_ret
        exact ⟨ret_bool HR.out.symm, HB1.out⟩
      · have HR : Hid (RES = false) := Lib.hid ((HP.out _ _ _ _ _ _ rfl hd ha hb ht rfl).trans (by simp [h4]))
        have n4 : ((x4 : Int) == 0) = false := beq_eq_false_iff_ne.2 (by omega)
        clear hd ha hb ht h4
        go_enter Tryz.func91, Tryz.ntmps91
        go_wp2_with fail
        generalize w.alloc (.cells #[.int .i64 x0, .int .i64 x1, .int .i64 x2, .int .i64 x3, .int .u32 x4, .int .i64 x5] 88) = w0 at *
        refine (HF.out w0).mono ?_; rintro e w1 ⟨rfl, hb1⟩
        have HB1 := Lib.hid ((HB0.out.trans (hb1.mono HB0.out.size)).alloc (Nat.le_trans HB0.out.size hb1.size) (.cells #[.bool fd, .bool fa, .bool fb, .bool false, .bool ft, .bool false] 177))
        have hal := hb1.alloc hb1.size (.cells #[.bool fd, .bool fa, .bool fb, .bool false, .bool ft, .bool false] 177)
        obtain ⟨c0, c1, c2, c3, c4, c5⟩ := HX.out.keep hal
        simp only at c0 c1 c2 c3 c4 c5
        clear hb1 hal
        go_wp2_with fail
        refine (HD.out _).mono ?_; rintro e w2 ⟨rfl, rfl⟩
        go_wp2_with fail
        refine (HA.out _).mono ?_; rintro e w2 ⟨rfl, rfl⟩
        go_wp2_with fail
        refine (HBb.out _).mono ?_; rintro e w2 ⟨rfl, rfl⟩
        go_wp2_with fail
        refine (HT.out _).mono ?_; rintro e w2 ⟨rfl, rfl⟩
        go_wp2_with fail
        go_ret
        exact ⟨ret_bool HR.out.symm, HB1.out⟩
    · have HR : Hid (RES = true) := Lib.hid ((HP.out _ _ _ _ _ _ rfl hd ha hb ht rfl).trans (by simp))
      clear hd ha hb ht
      go_enter Tryz.func91, Tryz.ntmps91
      go_wp2_with fail
      generalize w.alloc (.cells #[.int .i64 x0, .int .i64 x1, .int .i64 x2, .int .i64 x3, .int .u32 x4, .int .i64 x5] 88) = w0 at *
      refine (HF.out w0).mono ?_; rintro e w1 ⟨rfl, hb1⟩
      have HB1 := Lib.hid ((HB0.out.trans (hb1.mono HB0.out.size)).alloc (Nat.le_trans HB0.out.size hb1.size) (.cells #[.bool fd, .bool fa, .bool fb, .bool true, .bool ft, .bool false] 177))
      have hal := hb1.alloc hb1.size (.cells #[.bool fd, .bool fa, .bool fb, .bool true, .bool ft, .bool false] 177)
      obtain ⟨c0, c1, c2, c3, c4, c5⟩ := HX.out.keep hal
      simp only at c0 c1 c2 c3 c4 c5
      clear hb1 hal
      go_wp2_with fail
      refine (HD.out _).mono ?_; rintro e w2 ⟨rfl, rfl⟩
      go_wp2_with fail
      refine (HA.out _).mono ?_; rintro e w2 ⟨rfl, rfl⟩
      go_wp2_with fail
      refine (HBb.out _).mono ?_; rintro e w2 ⟨rfl, rfl⟩
      go_wp2_with fail
      refine (HT.out _).mono ?_; rintro e w2 ⟨rfl, rfl⟩
      go_wp2_with fail
      go_ret
      exact ⟨ret_bool HR.out.symm, HB1.out⟩
  · have hlow : low = -1 := HLow.out
    subst hlow
    cases fo
    · have HR : Hid (RES = false) := Lib.hid (HP.out _ _ _ _ _ _ rfl rfl rfl rfl rfl rfl)
      go_enter Tryz.func91, Tryz.ntmps91
      go_wp2_with fail
      generalize w.alloc (.cells #[.int .i64 x0, .int .i64 x1, .int .i64 x2, .int .i64 x3, .int .u32 x4, .int .i64 x5] 88) = w0 at *
      refine (HF.out w0).mono ?_; rintro e w1 ⟨rfl, hb1⟩
      have HB1 := Lib.hid ((HB0.out.trans (hb1.mono HB0.out.size)).alloc (Nat.le_trans HB0.out.size hb1.size) (.cells #[.bool fd, .bool fa, .bool fb, .bool fi, .bool ft, .bool true] 177))
      have hal := hb1.alloc hb1.size (.cells #[.bool fd, .bool fa, .bool fb, .bool fi, .bool ft, .bool true] 177)
      obtain ⟨c0, c1, c2, c3, c4, c5⟩ := HX.out.keep hal
      simp only at c0 c1 c2 c3 c4 c5
      clear hb1 hal
      go_wp2_with fail
      go_ret
      exact ⟨ret_bool HR.out.symm, HB1.out⟩
    by_cases hd : wi x1 fd 0 regs = true
    rotate_left
    · have hdf : wi x1 fd 0 regs = false := by simpa using hd
      have HR : Hid (RES = false) := Lib.hid ((HP.out _ _ _ _ _ _ rfl hdf rfl rfl rfl rfl).trans (by simp))
      have HD := Lib.hid (HW1.out _ hdf)
      clear hd hdf
      go_enter Tryz.func91, Tryz.ntmps91
      go_wp2_with fail
      generalize w.alloc (.cells #[.int .i64 x0, .int .i64 x1, .int .i64 x2, .int .i64 x3, .int .u32 x4, .int .i64 x5] 88) = w0 at *
      refine (HF.out w0).mono ?_; rintro e w1 ⟨rfl, hb1⟩
      have HB1 := Lib.hid ((HB0.out.trans (hb1.mono HB0.out.size)).alloc (Nat.le_trans HB0.out.size hb1.size) (.cells #[.bool fd, .bool fa, .bool fb, .bool fi, .bool ft, .bool true] 177))
      have hal := hb1.alloc hb1.size (.cells #[.bool fd, .bool fa, .bool fb, .bool fi, .bool ft, .bool true] 177)
      obtain ⟨c0, c1, c2, c3, c4, c5⟩ := HX.out.keep hal
      simp only at c0 c1 c2 c3 c4 c5
      clear hb1 hal
      go_wp2_with fail
      refine (HD.out _).mono ?_; rintro e w2 ⟨rfl, rfl⟩
      go_wp2_with fail
      go_ret
      exact ⟨ret_bool HR.out.symm, HB1.out⟩
    have HD := Lib.hid (HW1.out _ hd)
    by_cases ha : wi x2 fa (-1) regs = true
    rotate_left
    · have haf : wi x2 fa (-1) regs = false := by simpa using ha
      have HR : Hid (RES = false) := Lib.hid ((HP.out _ _ _ _ _ _ rfl hd haf rfl rfl rfl).trans (by simp))
      have HA := Lib.hid (HW2.out _ haf)
      clear ha haf hd
      go_enter Tryz.func91, Tryz.ntmps91
      go_wp2_with fail
      generalize w.alloc (.cells #[.int .i64 x0, .int .i64 x1, .int .i64 x2, .int .i64 x3, .int .u32 x4, .int .i64 x5] 88) = w0 at *
      refine (HF.out w0).mono ?_; rintro e w1 ⟨rfl, hb1⟩
      have HB1 := Lib.hid ((HB0.out.trans (hb1.mono HB0.out.size)).alloc (Nat.le_trans HB0.out.size hb1.size) (.cells #[.bool fd, .bool fa, .bool fb, .bool fi, .bool ft, .bool true] 177))
      have hal := hb1.alloc hb1.size (.cells #[.bool fd, .bool fa, .bool fb, .bool fi, .bool ft, .bool true] 177)
      obtain ⟨c0, c1, c2, c3, c4, c5⟩ := HX.out.keep hal
      simp only at c0 c1 c2 c3 c4 c5
      clear hb1 hal
      go_wp2_with fail
      refine (HD.out _).mono ?_; rintro e w2 ⟨rfl, rfl⟩
      go_wp2_with fail
      refine (HA.out _).mono ?_; rintro e w2 ⟨rfl, rfl⟩
      go_wp2_with fail
      go_ret
      exact ⟨ret_bool HR.out.symm, HB1.out⟩
    have HA := Lib.hid (HW2.out _ ha)
    by_cases hb : wi x3 fb 0 regs = true
    rotate_left
    · have hbf : wi x3 fb 0 regs = false := by simpa using hb
      have HR : Hid (RES = false) := Lib.hid ((HP.out _ _ _ _ _ _ rfl hd ha hbf rfl rfl).trans (by simp))
      have HBb := Lib.hid (HW3.out _ hbf)
      clear hb hbf hd ha
      go_enter Tryz.func91, Tryz.ntmps91
      go_wp2_with fail
      generalize w.alloc (.cells #[.int .i64 x0, .int .i64 x1, .int .i64 x2, .int .i64 x3, .int .u32 x4, .int .i64 x5] 88) = w0 at *
      refine (HF.out w0).mono ?_; rintro e w1 ⟨rfl, hb1⟩
      have HB1 := Lib.hid ((HB0.out.trans (hb1.mono HB0.out.size)).alloc (Nat.le_trans HB0.out.size hb1.size) (.cells #[.bool fd, .bool fa, .bool fb, .bool fi, .bool ft, .bool true] 177))
      have hal := hb1.alloc hb1.size (.cells #[.bool fd, .bool fa, .bool fb, .bool fi, .bool ft, .bool true] 177)
      obtain ⟨c0, c1, c2, c3, c4, c5⟩ := HX.out.keep hal
      simp only at c0 c1 c2 c3 c4 c5
      clear hb1 hal
      go_wp2_with fail
      refine (HD.out _).mono ?_; rintro e w2 ⟨rfl, rfl⟩
      go_wp2_with fail
      refine (HA.out _).mono ?_; rintro e w2 ⟨rfl, rfl⟩
      go_wp2_with fail
      refine (HBb.out _).mono ?_; rintro e w2 ⟨rfl, rfl⟩
      go_wp2_with fail
      go_ret
      exact ⟨ret_bool HR.out.symm, HB1.out⟩
    have HBb := Lib.hid (HW3.out _ hb)
    by_cases ht : wi x5 ft 0 blocks = true
    rotate_left
    · have htf : wi x5 ft 0 blocks = false := by simpa using ht
      have HR : Hid (RES = false) := Lib.hid ((HP.out _ _ _ _ _ _ rfl hd ha hb htf rfl).trans (by simp))
      have HT := Lib.hid (HW4.out _ htf)
      clear ht htf hd ha hb
      go_enter Tryz.func91, Tryz.ntmps91
      go_wp2_with fail
      generalize w.alloc (.cells #[.int .i64 x0, .int .i64 x1, .int .i64 x2, .int .i64 x3, .int .u32 x4, .int .i64 x5] 88) = w0 at *
      refine (HF.out w0).mono ?_; rintro e w1 ⟨rfl, hb1⟩
      have HB1 := Lib.hid ((HB0.out.trans (hb1.mono HB0.out.size)).alloc (Nat.le_trans HB0.out.size hb1.size) (.cells #[.bool fd, .bool fa, .bool fb, .bool fi, .bool ft, .bool true] 177))
      have hal := hb1.alloc hb1.size (.cells #[.bool fd, .bool fa, .bool fb, .bool fi, .bool ft, .bool true] 177)
      obtain ⟨c0, c1, c2, c3, c4, c5⟩ := HX.out.keep hal
      simp only at c0 c1 c2 c3 c4 c5
      clear hb1 hal
      go_wp2_with fail
      refine (HD.out _).mono ?_; rintro e w2 ⟨rfl, rfl⟩
      go_wp2_with fail
      refine (HA.out _).mono ?_; rintro e w2 ⟨rfl, rfl⟩
      go_wp2_with fail
      refine (HBb.out _).mono ?_; rintro e w2 ⟨rfl, rfl⟩
      go_wp2_with fail
      refine (HT.out _).mono ?_; rintro e w2 ⟨rfl, rfl⟩
      go_wp2_with fail
      go_ret
      exact ⟨ret_bool HR.out.symm, HB1.out⟩
    have HT := Lib.hid (HW4.out _ ht)
    cases fi
    · by_cases h4 : x4 = 0
      · have HR : Hid (RES = true) := Lib.hid ((HP.out _ _ _ _ _ _ rfl hd ha hb ht rfl).trans (by simp [h4]))
        have n4 : ((x4 : Int) == 0) = true := by rw [h4]; rfl
        clear hd ha hb ht h4
        go_enter Tryz.func91, Tryz.ntmps91
        go_wp2_with fail
        generalize w.alloc (.cells #[.int .i64 x0, .int .i64 x1, .int .i64 x2, .int .i64 x3, .int .u32 x4, .int .i64 x5] 88) = w0 at *
        refine (HF.out w0).mono ?_; rintro e w1 ⟨rfl, hb1⟩
        have HB1 := Lib.hid ((HB0.out.trans (hb1.mono HB0.out.size)).alloc (Nat.le_trans HB0.out.size hb1.size) (.cells #[.bool fd, .bool fa, .bool fb, .bool false, .bool ft, .bool true] 177))
        have hal := hb1.alloc hb1.size (.cells #[.bool fd, .bool fa, .bool fb, .bool false, .bool ft, .bool true] 177)
        obtain ⟨c0, c1, c2, c3, c4, c5⟩ := HX.out.keep hal
        simp only at c0 c1 c2 c3 c4 c5
        clear hb1 hal
        go_wp2_with fail
        refine (HD.out _).mono ?_; rintro e w2 ⟨rfl, rfl⟩
        go_wp2_with fail
        refine (HA.out _).mono ?_; rintro e w2 ⟨rfl, rfl⟩
        go_wp2_with fail
        refine (HBb.out _).mono ?_; rintro e w2 ⟨rfl, rfl⟩
        go_wp2_with fail
        refine (HT.out _).mono ?_; rintro e w2 ⟨rfl, rfl⟩
        go_wp2_with fail
        go_ret
        exact ⟨ret_bool HR.out.symm, HB1.out⟩
      · have HR : Hid (RES = false) := Lib.hid ((HP.out _ _ _ _ _ _ rfl hd ha hb ht rfl).trans (by simp [h4]))
        have n4 : ((x4 : Int) == 0) = false := beq_eq_false_iff_ne.2 (by omega)
        clear hd ha hb ht h4
        go_enter Tryz.func91, Tryz.ntmps91
        go_wp2_with fail
        generalize w.alloc (.cells #[.int .i64 x0, .int .i64 x1, .int .i64 x2, .int .i64 x3, .int .u32 x4, .int .i64 x5] 88) = w0 at *
        refine (HF.out w0).mono ?_; rintro e w1 ⟨rfl, hb1⟩
        have HB1 := Lib.hid ((HB0.out.trans (hb1.mono HB0.out.size)).alloc (Nat.le_trans HB0.out.size hb1.size) (.cells #[.bool fd, .bool fa, .bool fb, .bool false, .bool ft, .bool true] 177))
        have hal := hb1.alloc hb1.size (.cells #[.bool fd, .bool fa, .bool fb, .bool false, .bool ft, .bool true] 177)
        obtain ⟨c0, c1, c2, c3, c4, c5⟩ := HX.out.keep hal
        simp only at c0 c1 c2 c3 c4 c5
        clear hb1 hal
        go_wp2_with fail
        refine (HD.out _).mono ?_; rintro e w2 ⟨rfl, rfl⟩
        go_wp2_with fail
        refine (HA.out _).mono ?_; rintro e w2 ⟨rfl, rfl⟩
        go_wp2_with fail
        refine (HBb.out _).mono ?_; rintro e w2 ⟨rfl, rfl⟩
        go_wp2_with fail
        refine (HT.out _).mono ?_; rintro e w2 ⟨rfl, rfl⟩
        go_wp2_with fail
        go_ret
        exact ⟨ret_bool HR.out.symm, HB1.out⟩
    · have HR : Hid (RES = true) := Lib.hid ((HP.out _ _ _ _ _ _ rfl hd ha hb ht rfl).trans (by simp))
      clear hd ha hb ht
      go_enter Tryz.func91, Tryz.ntmps91
      go_wp2_with fail
      generalize w.alloc (.cells #[.int .i64 x0, .int .i64 x1, .int .i64 x2, .int .i64 x3, .int .u32 x4, .int .i64 x5] 88) = w0 at *
      refine (HF.out w0).mono ?_; rintro e w1 ⟨rfl, hb1⟩
      have HB1 := Lib.hid ((HB0.out.trans (hb1.mono HB0.out.size)).alloc (Nat.le_trans HB0.out.size hb1.size) (.cells #[.bool fd, .bool fa, .bool fb, .bool true, .bool ft, .bool true] 177))
      have hal := hb1.alloc hb1.size (.cells #[.bool fd, .bool fa, .bool fb, .bool true, .bool ft, .bool true] 177)
      obtain ⟨c0, c1, c2, c3, c4, c5⟩ := HX.out.keep hal
      simp only at c0 c1 c2 c3 c4 c5
      clear hb1 hal
      go_wp2_with fail
      refine (HD.out _).mono ?_; rintro e w2 ⟨rfl, rfl⟩
      go_wp2_with fail
      refine (HA.out _).mono ?_; rintro e w2 ⟨rfl, rfl⟩
      go_wp2_with fail
      refine (HBb.out _).mono ?_; rintro e w2 ⟨rfl, rfl⟩
      go_wp2_with fail
      refine (HT.out _).mono ?_; rintro e w2 ⟨rfl, rfl⟩
      go_wp2_with fail
      go_ret
      exact ⟨ret_bool HR.out.symm, HB1.out⟩
end Go.Proofs.YtpdbokbmchlgpaaGreat.PK
