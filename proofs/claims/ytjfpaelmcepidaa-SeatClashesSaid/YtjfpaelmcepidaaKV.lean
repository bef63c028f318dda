/- The walks of pick's Uses and Defines. -/
import Derived.Test.YtjfpaelmcepidaaKU
namespace Go.Proofs.Ytjfpaelmcepidaa.PK
open Go.RowKit

theorem isCode_is {x : Cd} {regs blocks : Int} {b : Bool} (h : isCodeB x regs blocks = b) (w : World) : Calls Try.prog 48 #[(.agg #[.int .i64 x.op, .int .i64 x.d, .int .i64 x.a, .int .i64 x.b, .int .u32 x.im, .int .i64 x.to]), .int .i64 regs, .int .i64 blocks] w fun e w' => e = .returned (.bool b) ∧ Below w.heap.size w w' := by rw [← h]; exact isCode_any x regs blocks w
set_option maxRecDepth 100000 in
set_option maxHeartbeats 1000000 in
theorem Uses_any (x : Cd) (hx : isCodeB x 200 400 = true) (w : World) : Calls Try.prog 57 #[(.agg #[.int .i64 x.op, .int .i64 x.d, .int .i64 x.a, .int .i64 x.b, .int .u32 x.im, .int .i64 x.to])] w fun e w' => (∃ v, e = .returned (.tuple #[v, .int .i64 0]) ∧ UsesPost x w.heap.size v w') ∧ Below w.heap.size w w' := by
  have HB0 := Lib.hid ((Below.refl w.heap.size w).alloc (Nat.le_refl _) (.cells #[.int .i64 x.op, .int .i64 x.d, .int .i64 x.a, .int .i64 x.b, .int .u32 x.im, .int .i64 x.to] 68))
  have HX := Lib.hid (cdAt_new w x 68)
  have HC := Lib.hid (isCode_is hx)
  have HU := Lib.hid (uses_any x)
  have HP : Hid (∀ v w' B, w.heap.size ≤ B → UsesPost x B v w' → UsesPost x w.heap.size v w') := Lib.hid fun v w' B h1 h2 => owns_base h2 h1
  clear hx
  generalize hP : UsesPost x = P at *
  clear hP
  obtain ⟨x0, x1, x2, x3, x4, x5⟩ := x
  simp only at HC HU
  have HX : Hid (CdAt (w.alloc (.cells #[.int .i64 x0, .int .i64 x1, .int .i64 x2, .int .i64 x3, .int .u32 x4, .int .i64 x5] 68)) w.heap.size 0 ⟨x0, x1, x2, x3, x4, x5⟩) := HX
  have HB0 : Hid (Below w.heap.size w (w.alloc (.cells #[.int .i64 x0, .int .i64 x1, .int .i64 x2, .int .i64 x3, .int .u32 x4, .int .i64 x5] 68))) := HB0
  have HC : Hid (∀ w : World, Calls Try.prog 48 #[.agg #[.int .i64 x0, .int .i64 x1, .int .i64 x2, .int .i64 x3, .int .u32 x4, .int .i64 x5], .int .i64 200, .int .i64 400] w fun e w' => e = .returned (.bool true) ∧ Below w.heap.size w w') := HC
  have HU : Hid (∀ w : World, Calls Try.prog 92 #[.agg #[.int .i64 x0, .int .i64 x1, .int .i64 x2, .int .i64 x3, .int .u32 x4, .int .i64 x5]] w fun e w' => (∃ v, e = .returned v ∧ P w.heap.size v w') ∧ Below w.heap.size w w') := HU
  go_enter Try.func57, Try.ntmps57
  go_wp2_with fail
  generalize w.alloc (.cells #[.int .i64 x0, .int .i64 x1, .int .i64 x2, .int .i64 x3, .int .u32 x4, .int .i64 x5] 68) = w0 at *
  refine (HC.out _).mono ?_; rintro e w1 ⟨rfl, hb1⟩
  have HB1 := Lib.hid (HB0.out.trans (hb1.mono HB0.out.size))
  obtain ⟨c0, c1, c2, c3, c4, c5⟩ := HX.out.keep hb1
  simp only at c0 c1 c2 c3 c4 c5
  clear hb1
  go_wp2_with fail
  refine (HU.out _).mono ?_; rintro e w2 ⟨⟨v, rfl, hp⟩, hb2⟩
  have HB2 := Lib.hid (HB1.out.trans (hb2.mono HB1.out.size))
  have HPv := Lib.hid (HP.out _ _ _ HB1.out.size hp)
  clear hb2 hp
  go_wp2_with fail
  go_ret2
  exact ⟨⟨_, rfl, HPv.out⟩, HB2.out⟩
set_option maxRecDepth 100000 in
set_option maxHeartbeats 1000000 in
theorem Defines_any (x : Cd) (hx : isCodeB x 200 400 = true) (w : World) : Calls Try.prog 58 #[(.agg #[.int .i64 x.op, .int .i64 x.d, .int .i64 x.a, .int .i64 x.b, .int .u32 x.im, .int .i64 x.to])] w fun e w' => e = .returned (.tuple #[.int .i64 x.d, .bool (fD x.op), .int .i64 0]) ∧ Below w.heap.size w w' := by
  have HB0 := Lib.hid ((Below.refl w.heap.size w).alloc (Nat.le_refl _) (.cells #[.int .i64 x.op, .int .i64 x.d, .int .i64 x.a, .int .i64 x.b, .int .u32 x.im, .int .i64 x.to] 68))
  have HX := Lib.hid (cdAt_new w x 68)
  have HC := Lib.hid (isCode_is hx)
  have HF := Lib.hid (fieldsOf_any x.op)
  unfold fieldsV at HF
  clear hx
  obtain ⟨x0, x1, x2, x3, x4, x5⟩ := x
  simp only at HC HF
  have HX : Hid (CdAt (w.alloc (.cells #[.int .i64 x0, .int .i64 x1, .int .i64 x2, .int .i64 x3, .int .u32 x4, .int .i64 x5] 68)) w.heap.size 0 ⟨x0, x1, x2, x3, x4, x5⟩) := HX
  have HB0 : Hid (Below w.heap.size w (w.alloc (.cells #[.int .i64 x0, .int .i64 x1, .int .i64 x2, .int .i64 x3, .int .u32 x4, .int .i64 x5] 68))) := HB0
  have HC : Hid (∀ w : World, Calls Try.prog 48 #[.agg #[.int .i64 x0, .int .i64 x1, .int .i64 x2, .int .i64 x3, .int .u32 x4, .int .i64 x5], .int .i64 200, .int .i64 400] w fun e w' => e = .returned (.bool true) ∧ Below w.heap.size w w') := HC
  show Calls _ _ _ _ fun e w' => e = .returned (.tuple #[.int .i64 x1, .bool (fD x0), .int .i64 0]) ∧ _
  generalize fD x0 = fd at *
  generalize fA x0 = fa at *
  generalize fB x0 = fb at *
  generalize fI x0 = fi at *
  generalize fT x0 = ft at *
  generalize fM x0 = fm at *
  go_enter Try.func58, Try.ntmps58
  go_wp2_with fail
  generalize w.alloc (.cells #[.int .i64 x0, .int .i64 x1, .int .i64 x2, .int .i64 x3, .int .u32 x4, .int .i64 x5] 68) = w0 at *
  generalize hq : w.heap.size = q at *
  have HQ := Lib.hid hq; clear hq
  refine (HC.out _).mono ?_; rintro e w1 ⟨rfl, hb1⟩
  have HB1 := Lib.hid (HB0.out.trans (hb1.mono (by rw [← HQ.out]; exact HB0.out.size)))
  have HX1 := Lib.hid (HX.out.keep hb1)
  have c0 := HX1.out.c0
  simp only at c0
  clear hb1
  go_wp2_with fail
  refine (HF.out _).mono ?_; rintro e w2 ⟨rfl, hb2⟩
  have hz2 : q ≤ w2.heap.size := by rw [← HQ.out]; exact Nat.le_trans HB1.out.size hb2.size
  have HB2 := Lib.hid ((HB1.out.trans (hb2.mono (by rw [← HQ.out]; exact HB1.out.size))).alloc hz2 (.cells #[.bool fd, .bool fa, .bool fb, .bool fi, .bool ft, .bool fm] 134))
  have hal := hb2.alloc hb2.size (.cells #[.bool fd, .bool fa, .bool fb, .bool fi, .bool ft, .bool fm] 134)
  have d1 := (HX1.out.keep hal).c1
  simp only at d1
  have f0 : (w2.alloc (.cells #[.bool fd, .bool fa, .bool fb, .bool fi, .bool ft, .bool fm] 134)).cell? ⟨w2.heap.size, 0, none⟩ = some (.bool fd) := by simp [go_sem]
  clear hb2 hal c0 hz2
  go_upto_region 4 with (fail)
  generalize w2.alloc (.cells #[.bool fd, .bool fa, .bool fb, .bool fi, .bool ft, .bool fm] 134) = w3 at *
  generalize w2.heap.size = q3 at *
  go_quiet (fail)
  go_wp2_with fail
  exact bodyPost_ret (v := .tuple #[.int .i64 x1, .bool fd, .int .i64 0]) (by simp [results, Try.results58, go_sem]) rfl ⟨rfl, by rw [HQ.out]; exact below_drewN HB2.out _⟩
end Go.Proofs.Ytjfpaelmcepidaa.PK
