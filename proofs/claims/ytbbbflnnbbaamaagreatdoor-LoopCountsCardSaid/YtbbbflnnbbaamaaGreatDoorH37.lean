/- Packed of several texts. -/
import Derived.Test.YtbbbflnnbbaamaaGreatDoorH35
namespace Go.Proofs.YtbbbflnnbbaamaaGreatDoor.PK
open Go.RowKit

set_option maxRecDepth 100000 in
set_option maxHeartbeats 16000000 in
theorem rshape_p (F : Fun) (A : FunA) (x : Ins) (aa ta : Option Addr) (ca ct : Nat) (w : World) (hm : x.im < 4294967296) (ha : x.ar.length ≤ 1000) (hwn : ¬ (1 ≤ x.wd ∧ x.wd ≤ 32)) (h33 : x.wd = 33) :
  Calls Tryz.prog 91 #[funV F A, insV x aa ta ca ct] w (FmPost (frmR F.ret F.sl.length x.ar.length x.op x.wd x.fl x.im) w) := by
 obtain ⟨op, wd, fl, ar, im, tt⟩ := x
 replace hm : im < 4294967296 := hm
 replace ha : ar.length ≤ 1000 := ha
 replace hwn : ¬ (1 ≤ wd ∧ wd ≤ 32) := hwn
 replace h33 : wd = 33 := h33
 have HPl := Lib.hid (fun u => plain_any ⟨op, wd, fl, ar, im, tt⟩ aa ta ca ct u)
 have HAr0 := Lib.hid (fun ho u => arith_any ⟨op, wd, fl, ar, im, tt⟩ aa ta ca ct u ho)
 have HWo := Lib.hid (fun u => isWordOf_any wd im u hm)
 have HWi := Lib.hid (risWidth_any wd)
 have hw3 : ∃ w3, ((w.alloc (.cells #[.slice A.pa F.ps.length A.pc, .int .i64 F.ret, .slice A.sa F.sl.length A.sc, .slice A.ba F.bs.length A.bc] 31)).alloc (.cells #[.int .i64 op, .int .i64 wd, .int .i64 fl, .slice aa ar.length ca, .int .u32 im, .slice ta tt.length ct] 63)).alloc (.cells #[.int .i64 0, .int .i64 0, .bool false] 142) = w3 := ⟨_, rfl⟩
 obtain ⟨w3, hw3⟩ := hw3
 have f1 : w3.cell? ⟨w.heap.size, 1, none⟩ = some (.int .i64 F.ret) := by subst hw3; simp [go_sem]
 have f2 : w3.cell? ⟨w.heap.size, 2, none⟩ = some (.slice A.sa F.sl.length A.sc) := by subst hw3; simp [go_sem]
 have x0 : w3.cell? ⟨w.heap.size + 1, 0, none⟩ = some (.int .i64 op) := by subst hw3; simp [go_sem]
 have x1 : w3.cell? ⟨w.heap.size + 1, 1, none⟩ = some (.int .i64 wd) := by subst hw3; simp [go_sem]
 have x2 : w3.cell? ⟨w.heap.size + 1, 2, none⟩ = some (.int .i64 fl) := by subst hw3; simp [go_sem]
 have x3 : w3.cell? ⟨w.heap.size + 1, 3, none⟩ = some (.slice aa ar.length ca) := by subst hw3; simp [go_sem]
 have x4 : w3.cell? ⟨w.heap.size + 1, 4, none⟩ = some (.int .u32 im) := by subst hw3; simp [go_sem]
 have x5 : w3.cell? ⟨w.heap.size + 1, 5, none⟩ = some (.slice ta tt.length ct) := by subst hw3; simp [go_sem]
 have hr3 : w3.heap[w.heap.size + 2]? = some (.cells #[.int .i64 0, .int .i64 0, .bool false] 142 (0, 0)) := by
  subst hw3
  have := heap_alloc_new ((w.alloc (.cells #[.slice A.pa F.ps.length A.pc, .int .i64 F.ret, .slice A.sa F.sl.length A.sc, .slice A.ba F.bs.length A.bc] 31)).alloc (.cells #[.int .i64 op, .int .i64 wd, .int .i64 fl, .slice aa ar.length ca, .int .u32 im, .slice ta tt.length ct] 63)) (.cells #[.int .i64 0, .int .i64 0, .bool false] 142)
  simpa using this
 have hb3 : Below w.heap.size w w3 := by
  subst hw3
  exact (((Below.refl _ _).alloc (Nat.le_refl _) _).alloc (by simp) _).alloc (by simp; omega) _
 have HSt : Hid (∀ W, Below w3.heap.size w3 W → W.there (w.heap.size + 2) 0 3 ∧ ∀ (x y z : Value) W', W.setCells (w.heap.size + 2) 0 #[x, y, z].toList = W' → W'.heap[w.heap.size + 2]? = some (.cells #[x, y, z] 142 (0, 0)) ∧ Below w.heap.size w W') := Lib.hid fun W hW => by
  have hr := (hW.block _ (lt_of_block hr3)).trans hr3
  refine ⟨there_row3 hr, ?_⟩
  rintro x y z W' rfl
  exact ⟨set_row3 hr _ _ _, (hb3.trans (hW.mono hb3.size)).trans ((save_row3 _ _ _ _ _).below (by omega) (Nat.le_trans hb3.size hW.size))⟩
 have HBn1 : Hid (Below w3.heap.size w3 w3) := Lib.hid (Below.refl _ _)
 clear hr3 hb3
 obtain ⟨r, hr⟩ : ∃ r, (decide (fl = 0) && decide (im = 0)) = r := ⟨_, rfl⟩
 have Hr := Lib.hid hr
 have hpr : plnB ⟨op, wd, fl, ar, im, tt⟩ = r := hr
 rw [hpr] at HPl
 clear hr hpr
 simp only [funV, funC, insV] at HPl HAr0 ⊢
 have HRe := Lib.hid (rfl : frmR F.ret F.sl.length ar.length op wd fl im = frmR F.ret F.sl.length ar.length op wd fl im)
 generalize hR : frmR F.ret F.sl.length ar.length op wd fl im = R at HRe ⊢
 replace HRe : Hid (R = frmR F.ret F.sl.length ar.length op wd fl im) := Lib.hid hR.symm
 clear hR
 have hn : Hid (isNum wd = decide (1 ≤ wd ∧ wd ≤ 32)) := Lib.hid rfl
 have him0 : (0 : Int) ≤ (im : Int) := by omega
 have hnw : isNum wd = false := hn.out.trans (decide_eq_false hwn)
 have q33 : (wd == 33) = true := by simp [h33]
 rw [hnw] at HWi
 have H33 := Lib.hid h33
 have Hnw := Lib.hid hnw
 have Hw0 : Hid ((wd == 0) = false) := Lib.hid (by simp; omega)
 have Hn0 : Hid (¬ wd = 0) := Lib.hid (by omega)
 have Hw1 : Hid ((wd == 1) = false) := Lib.hid (by simp; omega)
 have Hn1 : Hid (¬ wd = 1) := Lib.hid (by omega)
 have Hwo8 : Hid (wd ≠ 8 ∧ wd ≠ 16 ∧ wd ≠ 32) := Lib.hid ⟨by omega, by omega, by omega⟩
 have Hq33 := Lib.hid q33
 clear hnw h33 hwn
 go_enter Tryz.func91, Tryz.ntmps91
 go_upto_region 1 with fail
 (try rw [hw3])
 clear hw3
 go_wp2_with fail
 refine (HWi.out _).mono ?_; rintro e w2 ⟨rfl, rfl⟩
 go_upto_region 3 with fail
 clear q33
 by_cases o0 : op = 0
 ·have H0k := Lib.hid o0
  subst o0
  go_upto_region 5 with fail
  have HE : Hid (R = (0, 0, false)) := Lib.hid (by have hnw := Hnw.out; have hr := Hr.out; have h33 := H33.out; have hn33 : isNum 33 = false := rfl; rw [HRe.out]; unfold frmR; simp [*])
  have HBn := HBn1
  go_wp2_with ((with_reducible refine wpList_store_none ?_); refine wpList_store_form _ _ (w.heap.size + 2) (.int .i64 0) (.int .i64 0) (.bool false) ?_ ?_ ?_ ?_ ?_ ?_; exact rfl; exact rfl; exact rfl; exact (HSt.out _ HBn.out).1; exact oneFm _ _ _; generalize hw4 : World.setCells _ _ _ _ = w4; obtain ⟨hr4, hs4⟩ := (HSt.out _ HBn.out).2 _ _ _ _ hw4; have HR4 := Lib.hid hr4; have HS4 := Lib.hid hs4; clear hw4 hr4 hs4)
  (try simp only [Exit.inBlock, Exit.then])
  refine bodyPost_ret (results_cell_row rfl _ w4 (w.heap.size + 2) 142 _ _ _ rfl HR4.out Tryz.underlying142 rfl sizeFm) rfl ?_
  rw [HE.out]; exact ⟨rfl, HS4.out⟩
 have t0 : (op == 0) = false := by simp [o0]
 go_upto_region 6 with fail
 clear t0
 by_cases o14 : op = 14
 ·have H14k := Lib.hid o14
  subst o14
  go_upto_region 7 with fail
  have q2 : (wd == 1) = false := Hw1.out
  have hne := Hn1.out
  have HE : Hid (R = (2, 0, false)) := Lib.hid (by have hnw := Hnw.out; have hr := Hr.out; have h33 := H33.out; have hn33 : isNum 33 = false := rfl; rw [HRe.out]; unfold frmR; simp [*])
  clear hne
  have HBn := HBn1
  go_wp2_with ((with_reducible refine wpList_store_none ?_); refine wpList_store_form _ _ (w.heap.size + 2) (.int .i64 2) (.int .i64 0) (.bool false) ?_ ?_ ?_ ?_ ?_ ?_; exact rfl; exact rfl; exact rfl; exact (HSt.out _ HBn.out).1; exact oneFm _ _ _; generalize hw4 : World.setCells _ _ _ _ = w4; obtain ⟨hr4, hs4⟩ := (HSt.out _ HBn.out).2 _ _ _ _ hw4; have HR4 := Lib.hid hr4; have HS4 := Lib.hid hs4; clear hw4 hr4 hs4)
  (try simp only [Exit.inBlock, Exit.then])
  refine bodyPost_ret (results_cell_row rfl _ w4 (w.heap.size + 2) 142 _ _ _ rfl HR4.out Tryz.underlying142 rfl sizeFm) rfl ?_
  rw [HE.out]; exact ⟨rfl, HS4.out⟩
 have t14 : (op == 14) = false := by simp [o14]
 go_upto_region 8 with fail
 clear t14
 by_cases o15 : op = 15
 ·have H15k := Lib.hid o15
  subst o15
  go_upto_region 9 with fail
  have HE : Hid (R = (3, 0, r)) := Lib.hid (by have hnw := Hnw.out; have hr := Hr.out; have h33 := H33.out; have hn33 : isNum 33 = false := rfl; rw [HRe.out]; unfold frmR; rw [hr]; simp [*])
  have HBn := HBn1
  go_wp2_with ((with_reducible refine wpList_store_none ?_); refine wpList_store_form _ _ (w.heap.size + 2) (.int .i64 3) (.int .i64 0) (.bool r) ?_ ?_ ?_ ?_ ?_ ?_; exact rfl; exact rfl; exact rfl; exact (HSt.out _ HBn.out).1; exact oneFm _ _ _; generalize hw4 : World.setCells _ _ _ _ = w4; obtain ⟨hr4, hs4⟩ := (HSt.out _ HBn.out).2 _ _ _ _ hw4; have HR4 := Lib.hid hr4; have HS4 := Lib.hid hs4; clear hw4 hr4 hs4)
  refine (HPl.out _).mono ?_; rintro e w5 ⟨rfl, hb5⟩
  have HBn := Lib.hid (HBn1.out.trans (hb5.mono (Nat.le_refl _)))
  clear hb5
  go_wp2_with ((with_reducible refine wpList_store_none ?_); refine wpList_store_form _ _ (w.heap.size + 2) (.int .i64 3) (.int .i64 0) (.bool r) ?_ ?_ ?_ ?_ ?_ ?_; exact rfl; exact rfl; exact rfl; exact (HSt.out _ HBn.out).1; exact oneFm _ _ _; generalize hw4 : World.setCells _ _ _ _ = w4; obtain ⟨hr4, hs4⟩ := (HSt.out _ HBn.out).2 _ _ _ _ hw4; have HR4 := Lib.hid hr4; have HS4 := Lib.hid hs4; clear hw4 hr4 hs4)
  (try simp only [Exit.inBlock, Exit.then])
  refine bodyPost_ret (results_cell_row rfl _ w4 (w.heap.size + 2) 142 _ _ _ rfl HR4.out Tryz.underlying142 rfl sizeFm) rfl ?_
  rw [HE.out]; exact ⟨rfl, HS4.out⟩
 have t15 : (op == 15) = false := by simp [o15]
 go_upto_region 10 with fail
 clear t15
 by_cases o16 : op = 16
 ·have H16k := Lib.hid o16
  subst o16
  go_upto_region 14 with fail
  have HE : Hid (R = (1, 0, false)) := Lib.hid (by have hnw := Hnw.out; have hr := Hr.out; have h33 := H33.out; have hn33 : isNum 33 = false := rfl; rw [HRe.out]; unfold frmR; simp [*])
  have HBn := HBn1
  go_wp2_with ((with_reducible refine wpList_store_none ?_); refine wpList_store_form _ _ (w.heap.size + 2) (.int .i64 1) (.int .i64 0) (.bool false) ?_ ?_ ?_ ?_ ?_ ?_; exact rfl; exact rfl; exact rfl; exact (HSt.out _ HBn.out).1; exact oneFm _ _ _; generalize hw4 : World.setCells _ _ _ _ = w4; obtain ⟨hr4, hs4⟩ := (HSt.out _ HBn.out).2 _ _ _ _ hw4; have HR4 := Lib.hid hr4; have HS4 := Lib.hid hs4; clear hw4 hr4 hs4)
  (try simp only [Exit.inBlock, Exit.then])
  refine bodyPost_ret (results_cell_row rfl _ w4 (w.heap.size + 2) 142 _ _ _ rfl HR4.out Tryz.underlying142 rfl sizeFm) rfl ?_
  rw [HE.out]; exact ⟨rfl, HS4.out⟩
 have t16 : (op == 16) = false := by simp [o16]
 go_upto_region 11 with fail
 clear t16
 by_cases o17 : op = 17
 ·have H17k := Lib.hid o17
  subst o17
  go_upto_region 14 with fail
  have HE : Hid (R = (1, 0, false)) := Lib.hid (by have hnw := Hnw.out; have hr := Hr.out; have h33 := H33.out; have hn33 : isNum 33 = false := rfl; rw [HRe.out]; unfold frmR; simp [*])
  have HBn := HBn1
  go_wp2_with ((with_reducible refine wpList_store_none ?_); refine wpList_store_form _ _ (w.heap.size + 2) (.int .i64 1) (.int .i64 0) (.bool false) ?_ ?_ ?_ ?_ ?_ ?_; exact rfl; exact rfl; exact rfl; exact (HSt.out _ HBn.out).1; exact oneFm _ _ _; generalize hw4 : World.setCells _ _ _ _ = w4; obtain ⟨hr4, hs4⟩ := (HSt.out _ HBn.out).2 _ _ _ _ hw4; have HR4 := Lib.hid hr4; have HS4 := Lib.hid hs4; clear hw4 hr4 hs4)
  (try simp only [Exit.inBlock, Exit.then])
  refine bodyPost_ret (results_cell_row rfl _ w4 (w.heap.size + 2) 142 _ _ _ rfl HR4.out Tryz.underlying142 rfl sizeFm) rfl ?_
  rw [HE.out]; exact ⟨rfl, HS4.out⟩
 have t17 : (op == 17) = false := by simp [o17]
 go_upto_region 12 with fail
 clear t17
 by_cases o18 : op = 18
 ·have H18k := Lib.hid o18
  subst o18
  go_upto_region 14 with fail
  have HE : Hid (R = (1, 0, false)) := Lib.hid (by have hnw := Hnw.out; have hr := Hr.out; have h33 := H33.out; have hn33 : isNum 33 = false := rfl; rw [HRe.out]; unfold frmR; simp [*])
  have HBn := HBn1
  go_wp2_with ((with_reducible refine wpList_store_none ?_); refine wpList_store_form _ _ (w.heap.size + 2) (.int .i64 1) (.int .i64 0) (.bool false) ?_ ?_ ?_ ?_ ?_ ?_; exact rfl; exact rfl; exact rfl; exact (HSt.out _ HBn.out).1; exact oneFm _ _ _; generalize hw4 : World.setCells _ _ _ _ = w4; obtain ⟨hr4, hs4⟩ := (HSt.out _ HBn.out).2 _ _ _ _ hw4; have HR4 := Lib.hid hr4; have HS4 := Lib.hid hs4; clear hw4 hr4 hs4)
  (try simp only [Exit.inBlock, Exit.then])
  refine bodyPost_ret (results_cell_row rfl _ w4 (w.heap.size + 2) 142 _ _ _ rfl HR4.out Tryz.underlying142 rfl sizeFm) rfl ?_
  rw [HE.out]; exact ⟨rfl, HS4.out⟩
 have t18 : (op == 18) = false := by simp [o18]
 go_upto_region 13 with fail
 clear t18
 by_cases o21 : op = 21
 ·have H21k := Lib.hid o21
  subst o21
  go_upto_region 14 with fail
  have HE : Hid (R = (1, 0, false)) := Lib.hid (by have hnw := Hnw.out; have hr := Hr.out; have h33 := H33.out; have hn33 : isNum 33 = false := rfl; rw [HRe.out]; unfold frmR; simp [*])
  have HBn := HBn1
  go_wp2_with ((with_reducible refine wpList_store_none ?_); refine wpList_store_form _ _ (w.heap.size + 2) (.int .i64 1) (.int .i64 0) (.bool false) ?_ ?_ ?_ ?_ ?_ ?_; exact rfl; exact rfl; exact rfl; exact (HSt.out _ HBn.out).1; exact oneFm _ _ _; generalize hw4 : World.setCells _ _ _ _ = w4; obtain ⟨hr4, hs4⟩ := (HSt.out _ HBn.out).2 _ _ _ _ hw4; have HR4 := Lib.hid hr4; have HS4 := Lib.hid hs4; clear hw4 hr4 hs4)
  (try simp only [Exit.inBlock, Exit.then])
  refine bodyPost_ret (results_cell_row rfl _ w4 (w.heap.size + 2) 142 _ _ _ rfl HR4.out Tryz.underlying142 rfl sizeFm) rfl ?_
  rw [HE.out]; exact ⟨rfl, HS4.out⟩
 have t21 : (op == 21) = false := by simp [o21]
 go_upto_region 15 with fail
 clear t21
 by_cases o19 : op = 19
 ·have H19k := Lib.hid o19
  subst o19
  go_upto_region 17 with fail
  have HE : Hid (R = (2, 0, false)) := Lib.hid (by have hnw := Hnw.out; have hr := Hr.out; have h33 := H33.out; have hn33 : isNum 33 = false := rfl; rw [HRe.out]; unfold frmR; simp [*])
  have HBn := HBn1
  go_wp2_with ((with_reducible refine wpList_store_none ?_); refine wpList_store_form _ _ (w.heap.size + 2) (.int .i64 2) (.int .i64 0) (.bool false) ?_ ?_ ?_ ?_ ?_ ?_; exact rfl; exact rfl; exact rfl; exact (HSt.out _ HBn.out).1; exact oneFm _ _ _; generalize hw4 : World.setCells _ _ _ _ = w4; obtain ⟨hr4, hs4⟩ := (HSt.out _ HBn.out).2 _ _ _ _ hw4; have HR4 := Lib.hid hr4; have HS4 := Lib.hid hs4; clear hw4 hr4 hs4)
  (try simp only [Exit.inBlock, Exit.then])
  refine bodyPost_ret (results_cell_row rfl _ w4 (w.heap.size + 2) 142 _ _ _ rfl HR4.out Tryz.underlying142 rfl sizeFm) rfl ?_
  rw [HE.out]; exact ⟨rfl, HS4.out⟩
 have t19 : (op == 19) = false := by simp [o19]
 go_upto_region 16 with fail
 clear t19
 by_cases o20 : op = 20
 ·have H20k := Lib.hid o20
  subst o20
  go_upto_region 17 with fail
  have HE : Hid (R = (2, 0, false)) := Lib.hid (by have hnw := Hnw.out; have hr := Hr.out; have h33 := H33.out; have hn33 : isNum 33 = false := rfl; rw [HRe.out]; unfold frmR; simp [*])
  have HBn := HBn1
  go_wp2_with ((with_reducible refine wpList_store_none ?_); refine wpList_store_form _ _ (w.heap.size + 2) (.int .i64 2) (.int .i64 0) (.bool false) ?_ ?_ ?_ ?_ ?_ ?_; exact rfl; exact rfl; exact rfl; exact (HSt.out _ HBn.out).1; exact oneFm _ _ _; generalize hw4 : World.setCells _ _ _ _ = w4; obtain ⟨hr4, hs4⟩ := (HSt.out _ HBn.out).2 _ _ _ _ hw4; have HR4 := Lib.hid hr4; have HS4 := Lib.hid hs4; clear hw4 hr4 hs4)
  (try simp only [Exit.inBlock, Exit.then])
  refine bodyPost_ret (results_cell_row rfl _ w4 (w.heap.size + 2) 142 _ _ _ rfl HR4.out Tryz.underlying142 rfl sizeFm) rfl ?_
  rw [HE.out]; exact ⟨rfl, HS4.out⟩
 have t20 : (op == 20) = false := by simp [o20]
 go_upto_region 18 with fail
 clear t20
 by_cases o22 : op = 22
 ·have H22k := Lib.hid o22
  subst o22
  go_upto_region 20 with fail
  have HE : Hid (R = (0, 0, false)) := Lib.hid (by have hnw := Hnw.out; have hr := Hr.out; have h33 := H33.out; have hn33 : isNum 33 = false := rfl; rw [HRe.out]; unfold frmR; simp [*])
  have HBn := HBn1
  go_wp2_with ((with_reducible refine wpList_store_none ?_); refine wpList_store_form _ _ (w.heap.size + 2) (.int .i64 0) (.int .i64 0) (.bool false) ?_ ?_ ?_ ?_ ?_ ?_; exact rfl; exact rfl; exact rfl; exact (HSt.out _ HBn.out).1; exact oneFm _ _ _; generalize hw4 : World.setCells _ _ _ _ = w4; obtain ⟨hr4, hs4⟩ := (HSt.out _ HBn.out).2 _ _ _ _ hw4; have HR4 := Lib.hid hr4; have HS4 := Lib.hid hs4; clear hw4 hr4 hs4)
  (try simp only [Exit.inBlock, Exit.then])
  refine bodyPost_ret (results_cell_row rfl _ w4 (w.heap.size + 2) 142 _ _ _ rfl HR4.out Tryz.underlying142 rfl sizeFm) rfl ?_
  rw [HE.out]; exact ⟨rfl, HS4.out⟩
 have t22 : (op == 22) = false := by simp [o22]
 go_upto_region 19 with fail
 clear t22
 by_cases o23 : op = 23
 ·have H23k := Lib.hid o23
  subst o23
  go_upto_region 20 with fail
  have HE : Hid (R = (0, 0, false)) := Lib.hid (by have hnw := Hnw.out; have hr := Hr.out; have h33 := H33.out; have hn33 : isNum 33 = false := rfl; rw [HRe.out]; unfold frmR; simp [*])
  have HBn := HBn1
  go_wp2_with ((with_reducible refine wpList_store_none ?_); refine wpList_store_form _ _ (w.heap.size + 2) (.int .i64 0) (.int .i64 0) (.bool false) ?_ ?_ ?_ ?_ ?_ ?_; exact rfl; exact rfl; exact rfl; exact (HSt.out _ HBn.out).1; exact oneFm _ _ _; generalize hw4 : World.setCells _ _ _ _ = w4; obtain ⟨hr4, hs4⟩ := (HSt.out _ HBn.out).2 _ _ _ _ hw4; have HR4 := Lib.hid hr4; have HS4 := Lib.hid hs4; clear hw4 hr4 hs4)
  (try simp only [Exit.inBlock, Exit.then])
  refine bodyPost_ret (results_cell_row rfl _ w4 (w.heap.size + 2) 142 _ _ _ rfl HR4.out Tryz.underlying142 rfl sizeFm) rfl ?_
  rw [HE.out]; exact ⟨rfl, HS4.out⟩
 have t23 : (op == 23) = false := by simp [o23]
 go_upto_region 21 with fail
 clear t23
 by_cases o24 : op = 24
 ·have H24k := Lib.hid o24
  subst o24
  go_upto_region 22 with fail
  have q33 := Hq33.out
  by_cases hf : fl = 0
  rotate_left
  ·skip
   have q1 : (fl == 0) = false := by simp [hf]
   have HE : Hid (R = (0, 0, false)) := Lib.hid (by have hnw := Hnw.out; have hr := Hr.out; have h33 := H33.out; have hn33 : isNum 33 = false := rfl; rw [HRe.out]; unfold frmR; simp [*])
   clear hf
   have HBn := HBn1
   go_wp2_with ((with_reducible refine wpList_store_none ?_); refine wpList_store_form _ _ (w.heap.size + 2) (.int .i64 0) (.int .i64 0) (.bool false) ?_ ?_ ?_ ?_ ?_ ?_; exact rfl; exact rfl; exact rfl; exact (HSt.out _ HBn.out).1; exact oneFm _ _ _; generalize hw4 : World.setCells _ _ _ _ = w4; obtain ⟨hr4, hs4⟩ := (HSt.out _ HBn.out).2 _ _ _ _ hw4; have HR4 := Lib.hid hr4; have HS4 := Lib.hid hs4; clear hw4 hr4 hs4)
   (try simp only [Exit.inBlock, Exit.then])
   refine bodyPost_ret (results_cell_row rfl _ w4 (w.heap.size + 2) 142 _ _ _ rfl HR4.out Tryz.underlying142 rfl sizeFm) rfl ?_
   rw [HE.out]; exact ⟨rfl, HS4.out⟩
  have q1 : (fl == 0) = true := by simp [hf]
  by_cases h9 : im < F.sl.length
  ·skip
   have q3 : (im : Int) < (F.sl.length : Int) := by omega
   have HE : Hid (R = (0, 0, true)) := Lib.hid (by have hnw := Hnw.out; have hr := Hr.out; have h33 := H33.out; have hn33 : isNum 33 = false := rfl; rw [HRe.out]; unfold frmR; simp [*])
   clear hf h9
   have HBn := HBn1
   go_wp2_with ((with_reducible refine wpList_store_none ?_); refine wpList_store_form _ _ (w.heap.size + 2) (.int .i64 0) (.int .i64 0) (.bool true) ?_ ?_ ?_ ?_ ?_ ?_; exact rfl; exact rfl; exact rfl; exact (HSt.out _ HBn.out).1; exact oneFm _ _ _; generalize hw4 : World.setCells _ _ _ _ = w4; obtain ⟨hr4, hs4⟩ := (HSt.out _ HBn.out).2 _ _ _ _ hw4; have HR4 := Lib.hid hr4; have HS4 := Lib.hid hs4; clear hw4 hr4 hs4)
   (try simp only [Exit.inBlock, Exit.then])
   refine bodyPost_ret (results_cell_row rfl _ w4 (w.heap.size + 2) 142 _ _ _ rfl HR4.out Tryz.underlying142 rfl sizeFm) rfl ?_
   rw [HE.out]; exact ⟨rfl, HS4.out⟩
  ·skip
   have q3 : ¬ (im : Int) < (F.sl.length : Int) := by omega
   have HE : Hid (R = (0, 0, false)) := Lib.hid (by have hnw := Hnw.out; have hr := Hr.out; have h33 := H33.out; have hn33 : isNum 33 = false := rfl; rw [HRe.out]; unfold frmR; simp [*])
   clear hf h9
   have HBn := HBn1
   go_wp2_with ((with_reducible refine wpList_store_none ?_); refine wpList_store_form _ _ (w.heap.size + 2) (.int .i64 0) (.int .i64 0) (.bool false) ?_ ?_ ?_ ?_ ?_ ?_; exact rfl; exact rfl; exact rfl; exact (HSt.out _ HBn.out).1; exact oneFm _ _ _; generalize hw4 : World.setCells _ _ _ _ = w4; obtain ⟨hr4, hs4⟩ := (HSt.out _ HBn.out).2 _ _ _ _ hw4; have HR4 := Lib.hid hr4; have HS4 := Lib.hid hs4; clear hw4 hr4 hs4)
   (try simp only [Exit.inBlock, Exit.then])
   refine bodyPost_ret (results_cell_row rfl _ w4 (w.heap.size + 2) 142 _ _ _ rfl HR4.out Tryz.underlying142 rfl sizeFm) rfl ?_
   rw [HE.out]; exact ⟨rfl, HS4.out⟩
 have t24 : (op == 24) = false := by simp [o24]
 go_upto_region 23 with fail
 clear t24
 by_cases o25 : op = 25
 ·have H25k := Lib.hid o25
  subst o25
  go_upto_region 24 with fail
  have q33 := Hq33.out
  by_cases hi : im = 0
  rotate_left
  ·skip
   have q2 : ((im : Int) == 0) = false := by simp; omega
   have HE : Hid (R = (2, 0, false)) := Lib.hid (by have hnw := Hnw.out; have hr := Hr.out; have h33 := H33.out; have hn33 : isNum 33 = false := rfl; rw [HRe.out]; unfold frmR; simp [*])
   clear hi
   have HBn := HBn1
   go_wp2_with ((with_reducible refine wpList_store_none ?_); refine wpList_store_form _ _ (w.heap.size + 2) (.int .i64 2) (.int .i64 0) (.bool false) ?_ ?_ ?_ ?_ ?_ ?_; exact rfl; exact rfl; exact rfl; exact (HSt.out _ HBn.out).1; exact oneFm _ _ _; generalize hw4 : World.setCells _ _ _ _ = w4; obtain ⟨hr4, hs4⟩ := (HSt.out _ HBn.out).2 _ _ _ _ hw4; have HR4 := Lib.hid hr4; have HS4 := Lib.hid hs4; clear hw4 hr4 hs4)
   (try simp only [Exit.inBlock, Exit.then])
   refine bodyPost_ret (results_cell_row rfl _ w4 (w.heap.size + 2) 142 _ _ _ rfl HR4.out Tryz.underlying142 rfl sizeFm) rfl ?_
   rw [HE.out]; exact ⟨rfl, HS4.out⟩
  have q2 : ((im : Int) == 0) = true := by simp; omega
  by_cases hf : fl = 0
  ·skip
   have q1 : (fl == 0) = true := by simp [hf]
   have HE : Hid (R = (2, 0, true)) := Lib.hid (by have hnw := Hnw.out; have hr := Hr.out; have h33 := H33.out; have hn33 : isNum 33 = false := rfl; rw [HRe.out]; unfold frmR; simp [*])
   clear hf hi
   have HBn := HBn1
   go_wp2_with ((with_reducible refine wpList_store_none ?_); refine wpList_store_form _ _ (w.heap.size + 2) (.int .i64 2) (.int .i64 0) (.bool true) ?_ ?_ ?_ ?_ ?_ ?_; exact rfl; exact rfl; exact rfl; exact (HSt.out _ HBn.out).1; exact oneFm _ _ _; generalize hw4 : World.setCells _ _ _ _ = w4; obtain ⟨hr4, hs4⟩ := (HSt.out _ HBn.out).2 _ _ _ _ hw4; have HR4 := Lib.hid hr4; have HS4 := Lib.hid hs4; clear hw4 hr4 hs4)
   (try simp only [Exit.inBlock, Exit.then])
   refine bodyPost_ret (results_cell_row rfl _ w4 (w.heap.size + 2) 142 _ _ _ rfl HR4.out Tryz.underlying142 rfl sizeFm) rfl ?_
   rw [HE.out]; exact ⟨rfl, HS4.out⟩
  have q1 : (fl == 0) = false := by simp [hf]
  by_cases h8 : fl = 8
  ·skip
   have q4 : (fl == 8) = true := by simp [h8]
   have HE : Hid (R = (2, 0, true)) := Lib.hid (by have hnw := Hnw.out; have hr := Hr.out; have h33 := H33.out; have hn33 : isNum 33 = false := rfl; rw [HRe.out]; unfold frmR; simp [*])
   clear hf hi h8
   have HBn := HBn1
   go_wp2_with ((with_reducible refine wpList_store_none ?_); refine wpList_store_form _ _ (w.heap.size + 2) (.int .i64 2) (.int .i64 0) (.bool true) ?_ ?_ ?_ ?_ ?_ ?_; exact rfl; exact rfl; exact rfl; exact (HSt.out _ HBn.out).1; exact oneFm _ _ _; generalize hw4 : World.setCells _ _ _ _ = w4; obtain ⟨hr4, hs4⟩ := (HSt.out _ HBn.out).2 _ _ _ _ hw4; have HR4 := Lib.hid hr4; have HS4 := Lib.hid hs4; clear hw4 hr4 hs4)
   (try simp only [Exit.inBlock, Exit.then])
   refine bodyPost_ret (results_cell_row rfl _ w4 (w.heap.size + 2) 142 _ _ _ rfl HR4.out Tryz.underlying142 rfl sizeFm) rfl ?_
   rw [HE.out]; exact ⟨rfl, HS4.out⟩
  ·skip
   have q4 : (fl == 8) = false := by simp [h8]
   have HE : Hid (R = (2, 0, false)) := Lib.hid (by have hnw := Hnw.out; have hr := Hr.out; have h33 := H33.out; have hn33 : isNum 33 = false := rfl; rw [HRe.out]; unfold frmR; simp [*])
   clear hf hi h8
   have HBn := HBn1
   go_wp2_with ((with_reducible refine wpList_store_none ?_); refine wpList_store_form _ _ (w.heap.size + 2) (.int .i64 2) (.int .i64 0) (.bool false) ?_ ?_ ?_ ?_ ?_ ?_; exact rfl; exact rfl; exact rfl; exact (HSt.out _ HBn.out).1; exact oneFm _ _ _; generalize hw4 : World.setCells _ _ _ _ = w4; obtain ⟨hr4, hs4⟩ := (HSt.out _ HBn.out).2 _ _ _ _ hw4; have HR4 := Lib.hid hr4; have HS4 := Lib.hid hs4; clear hw4 hr4 hs4)
   (try simp only [Exit.inBlock, Exit.then])
   refine bodyPost_ret (results_cell_row rfl _ w4 (w.heap.size + 2) 142 _ _ _ rfl HR4.out Tryz.underlying142 rfl sizeFm) rfl ?_
   rw [HE.out]; exact ⟨rfl, HS4.out⟩
 have t25 : (op == 25) = false := by simp [o25]
 go_upto_region 25 with fail
 clear t25
 by_cases o26 : op = 26
 ·have H26k := Lib.hid o26
  subst o26
  go_upto_region 26 with fail
  obtain ⟨m8, m16, m32⟩ := Hwo8.out
  have q8 : (wd == 8) = false := by simp; omega
  have q16 : (wd == 16) = false := by simp; omega
  have q32 : (wd == 32) = false := by simp; omega
  have HE : Hid (R = (1, 0, false)) := Lib.hid (by have hnw := Hnw.out; have hr := Hr.out; have h33 := H33.out; have hn33 : isNum 33 = false := rfl; rw [HRe.out]; unfold frmR; simp [*])
  clear m8 m16 m32
  have HBn := HBn1
  go_wp2_with ((with_reducible refine wpList_store_none ?_); refine wpList_store_form _ _ (w.heap.size + 2) (.int .i64 1) (.int .i64 0) (.bool false) ?_ ?_ ?_ ?_ ?_ ?_; exact rfl; exact rfl; exact rfl; exact (HSt.out _ HBn.out).1; exact oneFm _ _ _; generalize hw4 : World.setCells _ _ _ _ = w4; obtain ⟨hr4, hs4⟩ := (HSt.out _ HBn.out).2 _ _ _ _ hw4; have HR4 := Lib.hid hr4; have HS4 := Lib.hid hs4; clear hw4 hr4 hs4)
  (try simp only [Exit.inBlock, Exit.then])
  refine bodyPost_ret (results_cell_row rfl _ w4 (w.heap.size + 2) 142 _ _ _ rfl HR4.out Tryz.underlying142 rfl sizeFm) rfl ?_
  rw [HE.out]; exact ⟨rfl, HS4.out⟩
 have t26 : (op == 26) = false := by simp [o26]
 go_upto_region 27 with fail
 clear t26
 by_cases o27 : op = 27
 ·have H27k := Lib.hid o27
  subst o27
  go_upto_region 28 with fail
  have q1 : (wd == 0) = false := Hw0.out
  have hne := Hn0.out
  have HE : Hid (R = (2, 0, false)) := Lib.hid (by have hnw := Hnw.out; have hr := Hr.out; have h33 := H33.out; have hn33 : isNum 33 = false := rfl; rw [HRe.out]; unfold frmR; simp [*])
  clear hne
  have HBn := HBn1
  go_wp2_with ((with_reducible refine wpList_store_none ?_); refine wpList_store_form _ _ (w.heap.size + 2) (.int .i64 2) (.int .i64 0) (.bool false) ?_ ?_ ?_ ?_ ?_ ?_; exact rfl; exact rfl; exact rfl; exact (HSt.out _ HBn.out).1; exact oneFm _ _ _; generalize hw4 : World.setCells _ _ _ _ = w4; obtain ⟨hr4, hs4⟩ := (HSt.out _ HBn.out).2 _ _ _ _ hw4; have HR4 := Lib.hid hr4; have HS4 := Lib.hid hs4; clear hw4 hr4 hs4)
  (try simp only [Exit.inBlock, Exit.then])
  refine bodyPost_ret (results_cell_row rfl _ w4 (w.heap.size + 2) 142 _ _ _ rfl HR4.out Tryz.underlying142 rfl sizeFm) rfl ?_
  rw [HE.out]; exact ⟨rfl, HS4.out⟩
 have t27 : (op == 27) = false := by simp [o27]
 go_upto_region 29 with fail
 clear t27
 by_cases o28 : op = 28
 ·have H28k := Lib.hid o28
  subst o28
  go_upto_region 30 with fail
  cases r
  ·skip
   have HE : Hid (R = ((-1), (-1), false)) := Lib.hid (by have hnw := Hnw.out; have hr := Hr.out; have h33 := H33.out; have hn33 : isNum 33 = false := rfl; rw [HRe.out]; unfold frmR; rw [hr]; simp [*])
   have HBn := HBn1
   go_wp2_with ((with_reducible refine wpList_store_none ?_); refine wpList_store_form _ _ (w.heap.size + 2) (.int .i64 (-1)) (.int .i64 (-1)) (.bool false) ?_ ?_ ?_ ?_ ?_ ?_; exact rfl; exact rfl; exact rfl; exact (HSt.out _ HBn.out).1; exact oneFm _ _ _; generalize hw4 : World.setCells _ _ _ _ = w4; obtain ⟨hr4, hs4⟩ := (HSt.out _ HBn.out).2 _ _ _ _ hw4; have HR4 := Lib.hid hr4; have HS4 := Lib.hid hs4; clear hw4 hr4 hs4)
   refine (HPl.out _).mono ?_; rintro e w5 ⟨rfl, hb5⟩
   have HBn := Lib.hid (HBn1.out.trans (hb5.mono (Nat.le_refl _)))
   have x3 := keep x3 hb5
   clear hb5
   go_wp2_with ((with_reducible refine wpList_store_none ?_); refine wpList_store_form _ _ (w.heap.size + 2) (.int .i64 (-1)) (.int .i64 (-1)) (.bool false) ?_ ?_ ?_ ?_ ?_ ?_; exact rfl; exact rfl; exact rfl; exact (HSt.out _ HBn.out).1; exact oneFm _ _ _; generalize hw4 : World.setCells _ _ _ _ = w4; obtain ⟨hr4, hs4⟩ := (HSt.out _ HBn.out).2 _ _ _ _ hw4; have HR4 := Lib.hid hr4; have HS4 := Lib.hid hs4; clear hw4 hr4 hs4)
   (try simp only [Exit.inBlock, Exit.then])
   refine bodyPost_ret (results_cell_row rfl _ w4 (w.heap.size + 2) 142 _ _ _ rfl HR4.out Tryz.underlying142 rfl sizeFm) rfl ?_
   rw [HE.out]; exact ⟨rfl, HS4.out⟩
  by_cases h0 : 0 < ar.length
  ·skip
   have q5 : (0 : Int) < (ar.length : Int) := by omega
   have HE : Hid (R = ((-1), (-1), true)) := Lib.hid (by have hnw := Hnw.out; have hr := Hr.out; have h33 := H33.out; have hn33 : isNum 33 = false := rfl; rw [HRe.out]; unfold frmR; rw [hr]; simp [*])
   have HBn := HBn1
   go_wp2_with ((with_reducible refine wpList_store_none ?_); refine wpList_store_form _ _ (w.heap.size + 2) (.int .i64 (-1)) (.int .i64 (-1)) (.bool true) ?_ ?_ ?_ ?_ ?_ ?_; exact rfl; exact rfl; exact rfl; exact (HSt.out _ HBn.out).1; exact oneFm _ _ _; generalize hw4 : World.setCells _ _ _ _ = w4; obtain ⟨hr4, hs4⟩ := (HSt.out _ HBn.out).2 _ _ _ _ hw4; have HR4 := Lib.hid hr4; have HS4 := Lib.hid hs4; clear hw4 hr4 hs4)
   refine (HPl.out _).mono ?_; rintro e w5 ⟨rfl, hb5⟩
   have HBn := Lib.hid (HBn1.out.trans (hb5.mono (Nat.le_refl _)))
   have x3 := keep x3 hb5
   clear hb5
   go_wp2_with ((with_reducible refine wpList_store_none ?_); refine wpList_store_form _ _ (w.heap.size + 2) (.int .i64 (-1)) (.int .i64 (-1)) (.bool true) ?_ ?_ ?_ ?_ ?_ ?_; exact rfl; exact rfl; exact rfl; exact (HSt.out _ HBn.out).1; exact oneFm _ _ _; generalize hw4 : World.setCells _ _ _ _ = w4; obtain ⟨hr4, hs4⟩ := (HSt.out _ HBn.out).2 _ _ _ _ hw4; have HR4 := Lib.hid hr4; have HS4 := Lib.hid hs4; clear hw4 hr4 hs4)
   (try simp only [Exit.inBlock, Exit.then])
   refine bodyPost_ret (results_cell_row rfl _ w4 (w.heap.size + 2) 142 _ _ _ rfl HR4.out Tryz.underlying142 rfl sizeFm) rfl ?_
   rw [HE.out]; exact ⟨rfl, HS4.out⟩
  ·skip
   have q5 : ¬ (0 : Int) < (ar.length : Int) := by omega
   have HE : Hid (R = ((-1), (-1), false)) := Lib.hid (by have hnw := Hnw.out; have hr := Hr.out; have h33 := H33.out; have hn33 : isNum 33 = false := rfl; rw [HRe.out]; unfold frmR; rw [hr]; simp [*])
   have HBn := HBn1
   go_wp2_with ((with_reducible refine wpList_store_none ?_); refine wpList_store_form _ _ (w.heap.size + 2) (.int .i64 (-1)) (.int .i64 (-1)) (.bool false) ?_ ?_ ?_ ?_ ?_ ?_; exact rfl; exact rfl; exact rfl; exact (HSt.out _ HBn.out).1; exact oneFm _ _ _; generalize hw4 : World.setCells _ _ _ _ = w4; obtain ⟨hr4, hs4⟩ := (HSt.out _ HBn.out).2 _ _ _ _ hw4; have HR4 := Lib.hid hr4; have HS4 := Lib.hid hs4; clear hw4 hr4 hs4)
   refine (HPl.out _).mono ?_; rintro e w5 ⟨rfl, hb5⟩
   have HBn := Lib.hid (HBn1.out.trans (hb5.mono (Nat.le_refl _)))
   have x3 := keep x3 hb5
   clear hb5
   go_wp2_with ((with_reducible refine wpList_store_none ?_); refine wpList_store_form _ _ (w.heap.size + 2) (.int .i64 (-1)) (.int .i64 (-1)) (.bool false) ?_ ?_ ?_ ?_ ?_ ?_; exact rfl; exact rfl; exact rfl; exact (HSt.out _ HBn.out).1; exact oneFm _ _ _; generalize hw4 : World.setCells _ _ _ _ = w4; obtain ⟨hr4, hs4⟩ := (HSt.out _ HBn.out).2 _ _ _ _ hw4; have HR4 := Lib.hid hr4; have HS4 := Lib.hid hs4; clear hw4 hr4 hs4)
   (try simp only [Exit.inBlock, Exit.then])
   refine bodyPost_ret (results_cell_row rfl _ w4 (w.heap.size + 2) 142 _ _ _ rfl HR4.out Tryz.underlying142 rfl sizeFm) rfl ?_
   rw [HE.out]; exact ⟨rfl, HS4.out⟩
 have t28 : (op == 28) = false := by simp [o28]
 go_upto_region 31 with fail
 clear t28
 by_cases o29 : op = 29
 ·have H29k := Lib.hid o29
  subst o29
  go_upto_region 32 with fail
  have q1 : (wd == 0) = false := Hw0.out
  have hne := Hn0.out
  have HE : Hid (R = (0, 1, false)) := Lib.hid (by have hnw := Hnw.out; have hr := Hr.out; have h33 := H33.out; have hn33 : isNum 33 = false := rfl; rw [HRe.out]; unfold frmR; simp [*])
  clear hne
  have HBn := HBn1
  go_wp2_with ((with_reducible refine wpList_store_none ?_); refine wpList_store_form _ _ (w.heap.size + 2) (.int .i64 0) (.int .i64 1) (.bool false) ?_ ?_ ?_ ?_ ?_ ?_; exact rfl; exact rfl; exact rfl; exact (HSt.out _ HBn.out).1; exact oneFm _ _ _; generalize hw4 : World.setCells _ _ _ _ = w4; obtain ⟨hr4, hs4⟩ := (HSt.out _ HBn.out).2 _ _ _ _ hw4; have HR4 := Lib.hid hr4; have HS4 := Lib.hid hs4; clear hw4 hr4 hs4)
  (try simp only [Exit.inBlock, Exit.then])
  refine bodyPost_ret (results_cell_row rfl _ w4 (w.heap.size + 2) 142 _ _ _ rfl HR4.out Tryz.underlying142 rfl sizeFm) rfl ?_
  rw [HE.out]; exact ⟨rfl, HS4.out⟩
 have t29 : (op == 29) = false := by simp [o29]
 go_upto_region 33 with fail
 clear t29
 by_cases o30 : op = 30
 ·have H30k := Lib.hid o30
  subst o30
  go_upto_region 34 with fail
  have q1 : (wd == 0) = false := Hw0.out
  have hne := Hn0.out
  have HE : Hid (R = (1, 2, false)) := Lib.hid (by have hnw := Hnw.out; have hr := Hr.out; have h33 := H33.out; have hn33 : isNum 33 = false := rfl; rw [HRe.out]; unfold frmR; simp [*])
  clear hne
  have HBn := HBn1
  go_wp2_with ((with_reducible refine wpList_store_none ?_); refine wpList_store_form _ _ (w.heap.size + 2) (.int .i64 1) (.int .i64 2) (.bool false) ?_ ?_ ?_ ?_ ?_ ?_; exact rfl; exact rfl; exact rfl; exact (HSt.out _ HBn.out).1; exact oneFm _ _ _; generalize hw4 : World.setCells _ _ _ _ = w4; obtain ⟨hr4, hs4⟩ := (HSt.out _ HBn.out).2 _ _ _ _ hw4; have HR4 := Lib.hid hr4; have HS4 := Lib.hid hs4; clear hw4 hr4 hs4)
  (try simp only [Exit.inBlock, Exit.then])
  refine bodyPost_ret (results_cell_row rfl _ w4 (w.heap.size + 2) 142 _ _ _ rfl HR4.out Tryz.underlying142 rfl sizeFm) rfl ?_
  rw [HE.out]; exact ⟨rfl, HS4.out⟩
 have t30 : (op == 30) = false := by simp [o30]
 go_upto_region 35 with fail
 clear t30
 by_cases o31 : op = 31
 ·have H31k := Lib.hid o31
  subst o31
  go_upto_region 36 with fail
  by_cases hr0 : 0 < F.ret
  ·skip
   have q1 : (wd == 0) = false := Hw0.out
   have hne := Hn0.out
   have HE : Hid (R = (1, 0, false)) := Lib.hid (by have hnw := Hnw.out; have hr := Hr.out; have h33 := H33.out; have hn33 : isNum 33 = false := rfl; rw [HRe.out]; unfold frmR; simp [*])
   clear hne
   have HBn := HBn1
   go_wp2_with ((with_reducible refine wpList_store_none ?_); refine wpList_store_form _ _ (w.heap.size + 2) (.int .i64 1) (.int .i64 0) (.bool false) ?_ ?_ ?_ ?_ ?_ ?_; exact rfl; exact rfl; exact rfl; exact (HSt.out _ HBn.out).1; exact oneFm _ _ _; generalize hw4 : World.setCells _ _ _ _ = w4; obtain ⟨hr4, hs4⟩ := (HSt.out _ HBn.out).2 _ _ _ _ hw4; have HR4 := Lib.hid hr4; have HS4 := Lib.hid hs4; clear hw4 hr4 hs4)
   (try simp only [Exit.inBlock, Exit.then])
   refine bodyPost_ret (results_cell_row rfl _ w4 (w.heap.size + 2) 142 _ _ _ rfl HR4.out Tryz.underlying142 rfl sizeFm) rfl ?_
   rw [HE.out]; exact ⟨rfl, HS4.out⟩
  ·skip
   have q1 : (wd == 0) = false := Hw0.out
   have hne := Hn0.out
   have HE : Hid (R = (0, 0, false)) := Lib.hid (by have hnw := Hnw.out; have hr := Hr.out; have h33 := H33.out; have hn33 : isNum 33 = false := rfl; rw [HRe.out]; unfold frmR; simp [*])
   clear hne
   have HBn := HBn1
   go_wp2_with ((with_reducible refine wpList_store_none ?_); refine wpList_store_form _ _ (w.heap.size + 2) (.int .i64 0) (.int .i64 0) (.bool false) ?_ ?_ ?_ ?_ ?_ ?_; exact rfl; exact rfl; exact rfl; exact (HSt.out _ HBn.out).1; exact oneFm _ _ _; generalize hw4 : World.setCells _ _ _ _ = w4; obtain ⟨hr4, hs4⟩ := (HSt.out _ HBn.out).2 _ _ _ _ hw4; have HR4 := Lib.hid hr4; have HS4 := Lib.hid hs4; clear hw4 hr4 hs4)
   (try simp only [Exit.inBlock, Exit.then])
   refine bodyPost_ret (results_cell_row rfl _ w4 (w.heap.size + 2) 142 _ _ _ rfl HR4.out Tryz.underlying142 rfl sizeFm) rfl ?_
   rw [HE.out]; exact ⟨rfl, HS4.out⟩
 have t31 : (op == 31) = false := by simp [o31]
 go_upto_region 40 with fail
 clear t31
 by_cases o32 : op = 32
 ·have H32k := Lib.hid o32
  subst o32
  go_upto_region 41 with fail
  have q1 : (wd == 0) = false := Hw0.out
  have hne := Hn0.out
  have HE : Hid (R = (0, 0, false)) := Lib.hid (by have hnw := Hnw.out; have hr := Hr.out; have h33 := H33.out; have hn33 : isNum 33 = false := rfl; rw [HRe.out]; unfold frmR; simp [*])
  clear hne
  have HBn := HBn1
  go_wp2_with ((with_reducible refine wpList_store_none ?_); refine wpList_store_form _ _ (w.heap.size + 2) (.int .i64 0) (.int .i64 0) (.bool false) ?_ ?_ ?_ ?_ ?_ ?_; exact rfl; exact rfl; exact rfl; exact (HSt.out _ HBn.out).1; exact oneFm _ _ _; generalize hw4 : World.setCells _ _ _ _ = w4; obtain ⟨hr4, hs4⟩ := (HSt.out _ HBn.out).2 _ _ _ _ hw4; have HR4 := Lib.hid hr4; have HS4 := Lib.hid hs4; clear hw4 hr4 hs4)
  (try simp only [Exit.inBlock, Exit.then])
  refine bodyPost_ret (results_cell_row rfl _ w4 (w.heap.size + 2) 142 _ _ _ rfl HR4.out Tryz.underlying142 rfl sizeFm) rfl ?_
  rw [HE.out]; exact ⟨rfl, HS4.out⟩
 have t32 : (op == 32) = false := by simp [o32]
 go_upto_region 42 with fail
 clear t32
 by_cases ho : 1 ≤ op ∧ op ≤ 13
 ·skip
  obtain ⟨ho1, ho2⟩ := ho
  generalize hra : flOk op fl = ra at HAr0
  have HRa := Lib.hid hra
  have HAr := Lib.hid (fun u => HAr0.out ⟨ho1, ho2⟩ u)
  clear hra
  have HE : Hid (R = (2, 0, false)) := Lib.hid (by have hnw := Hnw.out; have hr := Hr.out; have h33 := H33.out; have hn33 : isNum 33 = false := rfl; rw [HRe.out]; unfold frmR; simp [*])
  have HBn := HBn1
  go_wp2_with ((with_reducible refine wpList_store_none ?_); refine wpList_store_form _ _ (w.heap.size + 2) (.int .i64 2) (.int .i64 0) (.bool false) ?_ ?_ ?_ ?_ ?_ ?_; exact rfl; exact rfl; exact rfl; exact (HSt.out _ HBn.out).1; exact oneFm _ _ _; generalize hw4 : World.setCells _ _ _ _ = w4; obtain ⟨hr4, hs4⟩ := (HSt.out _ HBn.out).2 _ _ _ _ hw4; have HR4 := Lib.hid hr4; have HS4 := Lib.hid hs4; clear hw4 hr4 hs4)
  (try simp only [Exit.inBlock, Exit.then])
  refine bodyPost_ret (results_cell_row rfl _ w4 (w.heap.size + 2) 142 _ _ _ rfl HR4.out Tryz.underlying142 rfl sizeFm) rfl ?_
  rw [HE.out]; exact ⟨rfl, HS4.out⟩
 have hcs : op < 1 ∨ (1 ≤ op ∧ 13 < op) := by omega
 rcases hcs with g1 | ⟨g1, g2⟩
 ·have g1 : ¬ 1 ≤ op := by omega
  have HE : Hid (R = (0, 0, false)) := Lib.hid (by have hnw := Hnw.out; have hr := Hr.out; have h33 := H33.out; have hn33 : isNum 33 = false := rfl; rw [HRe.out]; unfold frmR; simp [*])
  have HBn := HBn1
  go_wp2_with ((with_reducible refine wpList_store_none ?_); refine wpList_store_form _ _ (w.heap.size + 2) (.int .i64 0) (.int .i64 0) (.bool false) ?_ ?_ ?_ ?_ ?_ ?_; exact rfl; exact rfl; exact rfl; exact (HSt.out _ HBn.out).1; exact oneFm _ _ _; generalize hw4 : World.setCells _ _ _ _ = w4; obtain ⟨hr4, hs4⟩ := (HSt.out _ HBn.out).2 _ _ _ _ hw4; have HR4 := Lib.hid hr4; have HS4 := Lib.hid hs4; clear hw4 hr4 hs4)
  (try simp only [Exit.inBlock, Exit.then])
  refine bodyPost_ret (results_cell_row rfl _ w4 (w.heap.size + 2) 142 _ _ _ rfl HR4.out Tryz.underlying142 rfl sizeFm) rfl ?_
  rw [HE.out]; exact ⟨rfl, HS4.out⟩
 ·have g2 : ¬ op ≤ 13 := by omega
  have HE : Hid (R = (0, 0, false)) := Lib.hid (by have hnw := Hnw.out; have hr := Hr.out; have h33 := H33.out; have hn33 : isNum 33 = false := rfl; rw [HRe.out]; unfold frmR; simp [*])
  have HBn := HBn1
  go_wp2_with ((with_reducible refine wpList_store_none ?_); refine wpList_store_form _ _ (w.heap.size + 2) (.int .i64 0) (.int .i64 0) (.bool false) ?_ ?_ ?_ ?_ ?_ ?_; exact rfl; exact rfl; exact rfl; exact (HSt.out _ HBn.out).1; exact oneFm _ _ _; generalize hw4 : World.setCells _ _ _ _ = w4; obtain ⟨hr4, hs4⟩ := (HSt.out _ HBn.out).2 _ _ _ _ hw4; have HR4 := Lib.hid hr4; have HS4 := Lib.hid hs4; clear hw4 hr4 hs4)
  (try simp only [Exit.inBlock, Exit.then])
  refine bodyPost_ret (results_cell_row rfl _ w4 (w.heap.size + 2) 142 _ _ _ rfl HR4.out Tryz.underlying142 rfl sizeFm) rfl ?_
  rw [HE.out]; exact ⟨rfl, HS4.out⟩
end Go.Proofs.YtbbbflnnbbaamaaGreatDoor.PK
