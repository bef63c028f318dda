/- Packed of several texts. -/
import Derived.Test.YtbbbflnnbbaamaaGreatDoorH23
namespace Go.Proofs.YtbbbflnnbbaamaaGreatDoor.PK
open Go.RowKit

set_option maxRecDepth 100000 in
set_option maxHeartbeats 4000000 in
theorem shape14 (F : Fun) (A : FunA) (x : Ins) (aa ta : Option Addr) (ca ct : Nat) (w : World) (ha : IntsIn w aa x.ar) (ht : IntsIn w ta x.tt) (hc : clsI x.op = 14) :
  Calls Tryz.prog 103 #[funV F A, insV x aa ta ca ct] w (ShapePost F x w) := by
 have HN := Lib.hid (isNumber_any x.wd)
 have HMm := Lib.hid (isMemory_any x.wd)
 have HMk := Lib.hid (Mask_any x.wd)
 have HC := Lib.hid (classOf_any x.op)
 have HS : Hid (∀ (o : Bool) (a t : Int) W', a = argsI F.ret x → t = tosI x → o = okI F.sl.length x → Below w.heap.size w W' → ShapePost F x w (.returned (.tuple #[.agg #[.int .i64 a, .int .i64 t], .bool o])) W') := Lib.hid (fun o a t W' h1 h2 h3 h4 => by subst h1 h2 h3; exact ⟨rfl, h4⟩)
 have HCl := Lib.hid hc
 have HT0 := Lib.hid ht
 have HH := Lib.hid (sh_head (F := F) (A := A) (ca := ca) (ct := ct) ha ht)
 rw [hc] at HC
 clear hc ha ht
 simp only [funV, funC, insV]
 go_enter Tryz.func103, Tryz.ntmps103
 go_upto_region 1 with (fail)
 generalize (((w.alloc (.cells #[.slice A.pa F.ps.length A.pc, .int .i64 F.ret, .slice A.sa F.sl.length A.sc, .slice A.ba F.bs.length A.bc] 31)).alloc (.cells #[.int .i64 x.op, .int .i64 x.wd, .int .i64 x.fl, .slice aa x.ar.length ca, .int .u32 x.im, .slice ta x.tt.length ct] 63)).alloc (.cells #[.int .i64 0, .int .i64 0] 151)) = W at *
 obtain ⟨c0, c1, c2, c3, c4, c5, _, hit⟩ := HH.out.x
 have r0 := HH.out.r0; have r1 := HH.out.r1; have z0 := HH.out.z0; have z1 := HH.out.z1; have f2 := HH.out.f2; have f0 := HH.out.f0
 have HIt := Lib.hid hit
 clear hit
 simp only [Nat.zero_add] at c1 c2 c3 c4 c5
 have hne : w.heap.size + 1 ≠ w.heap.size + 2 := by omega
 have HLe : Hid (w.heap.size ≤ w.heap.size + 1 + 1) := Lib.hid (by omega)
 have hne2 : w.heap.size ≠ w.heap.size + 2 := by omega
 generalize hnb : isNum x.wd = nb at *
 have HNb := Lib.hid hnb; clear hnb
 generalize hmm : isMm x.wd = mm at *
 have HMb := Lib.hid hmm; clear hmm
 cases nb
 ·skip
  by_cases hw : x.wd = 33
  ·have HW := Lib.hid hw
   rw [hw] at c1 HN HMm
   clear hw
   by_cases hi : x.im = 0
   ·have HI := Lib.hid hi
    rw [hi, show ((0 : Nat) : Int) = 0 from rfl] at c4
    clear hi
    by_cases hl : 0 < x.tt.length
    ·have HL := Lib.hid hl
     have hlb : (0 : Int) < (x.tt.length : Int) := by omega
     clear hl
     go_wp2_with (first | (go_at_call 34; refine (HMk.out _).mono ?_; rintro e w' ⟨rfl, rfl⟩) | (go_at_call 100; refine (HN.out _).mono ?_; rintro e w' ⟨rfl, rfl⟩) | (go_at_call 112; refine (HC.out _).mono ?_; rintro e w' ⟨rfl, rfl⟩))
     go_region
     go_wp2_with fail
     exact bodyPost_ret (v := .tuple #[.agg #[.int .i64 x.tt.length, .int .i64 x.tt.length], .bool true]) (by simp [results, Tryz.results103, go_sem, r0, r1] <;> omega) rfl (HS.out _ _ _ _ (by unfold argsI; rw [HCl.out]; simp) (by unfold tosI; rw [HCl.out]; simp) (by unfold okI formI; rw [HCl.out]; simp [HW.out, HI.out, HL.out]) (below_drew1 ((HH.out.low.setCell HLe.out _).setCell HLe.out _)))
    ·have HL := Lib.hid hl
     have hlb : ¬ (0 : Int) < (x.tt.length : Int) := by omega
     have HNil : Hid (x.tt = []) := Lib.hid (List.eq_nil_of_length_eq_zero (by omega))
     clear hl
     go_wp2_with (first | (go_at_call 34; refine (HMk.out _).mono ?_; rintro e w' ⟨rfl, rfl⟩) | (go_at_call 100; refine (HN.out _).mono ?_; rintro e w' ⟨rfl, rfl⟩) | (go_at_call 112; refine (HC.out _).mono ?_; rintro e w' ⟨rfl, rfl⟩))
     go_region
     go_wp2_with fail
     exact bodyPost_ret (v := .tuple #[.agg #[.int .i64 x.tt.length, .int .i64 x.tt.length], .bool false]) (by simp [results, Tryz.results103, go_sem, r0, r1] <;> exact HNil.out) rfl (HS.out _ _ _ _ (by unfold argsI; rw [HCl.out]; simp) (by unfold tosI; rw [HCl.out]; simp) (by unfold okI formI; rw [HCl.out]; simp [HW.out, HI.out, HL.out]) (below_drew1 ((HH.out.low.setCell HLe.out _).setCell HLe.out _)))
   ·have HI := Lib.hid hi
    have hb : ((x.im : Int) == 0) = false := by simp; omega
    clear hi
    go_wp2_with (first | (go_at_call 34; refine (HMk.out _).mono ?_; rintro e w' ⟨rfl, rfl⟩) | (go_at_call 100; refine (HN.out _).mono ?_; rintro e w' ⟨rfl, rfl⟩) | (go_at_call 112; refine (HC.out _).mono ?_; rintro e w' ⟨rfl, rfl⟩))
    go_region
    go_wp2_with fail
    exact bodyPost_ret (v := .tuple #[.agg #[.int .i64 x.tt.length, .int .i64 x.tt.length], .bool false]) (by simp [results, Tryz.results103, go_sem, r0, r1] <;> omega) rfl (HS.out _ _ _ _ (by unfold argsI; rw [HCl.out]; simp) (by unfold tosI; rw [HCl.out]; simp) (by unfold okI formI; rw [HCl.out]; simp [HW.out, HI.out]) (below_drew1 ((HH.out.low.setCell HLe.out _).setCell HLe.out _)))
  ·have HW := Lib.hid hw
   have hwb : (x.wd == 33) = false := by simpa using hw
   clear hw
   go_wp2_with (first | (go_at_call 34; refine (HMk.out _).mono ?_; rintro e w' ⟨rfl, rfl⟩) | (go_at_call 100; refine (HN.out _).mono ?_; rintro e w' ⟨rfl, rfl⟩) | (go_at_call 112; refine (HC.out _).mono ?_; rintro e w' ⟨rfl, rfl⟩))
   go_region
   go_wp2_with fail
   exact bodyPost_ret (v := .tuple #[.agg #[.int .i64 x.tt.length, .int .i64 x.tt.length], .bool false]) (by simp [results, Tryz.results103, go_sem, r0, r1] <;> omega) rfl (HS.out _ _ _ _ (by unfold argsI; rw [HCl.out]; simp) (by unfold tosI; rw [HCl.out]; simp) (by unfold okI formI; rw [HCl.out]; simp [HNb.out, HW.out]) (below_drew1 ((HH.out.low.setCell HLe.out _).setCell HLe.out _)))
 ·skip
  by_cases hi : x.im = 0
  ·have HI := Lib.hid hi
   rw [hi, show ((0 : Nat) : Int) = 0 from rfl] at c4
   clear hi
   by_cases hl : 0 < x.tt.length
   ·have HL := Lib.hid hl
    have hlb : (0 : Int) < (x.tt.length : Int) := by omega
    clear hl
    go_wp2_with (first | (go_at_call 34; refine (HMk.out _).mono ?_; rintro e w' ⟨rfl, rfl⟩) | (go_at_call 100; refine (HN.out _).mono ?_; rintro e w' ⟨rfl, rfl⟩) | (go_at_call 112; refine (HC.out _).mono ?_; rintro e w' ⟨rfl, rfl⟩))
    go_region
    go_wp2_with fail
    exact bodyPost_ret (v := .tuple #[.agg #[.int .i64 x.tt.length, .int .i64 x.tt.length], .bool true]) (by simp [results, Tryz.results103, go_sem, r0, r1] <;> omega) rfl (HS.out _ _ _ _ (by unfold argsI; rw [HCl.out]; simp) (by unfold tosI; rw [HCl.out]; simp) (by unfold okI formI; rw [HCl.out]; simp [HNb.out, HI.out, HL.out]) (below_drew1 ((HH.out.low.setCell HLe.out _).setCell HLe.out _)))
   ·have HL := Lib.hid hl
    have hlb : ¬ (0 : Int) < (x.tt.length : Int) := by omega
    have HNil : Hid (x.tt = []) := Lib.hid (List.eq_nil_of_length_eq_zero (by omega))
    clear hl
    go_wp2_with (first | (go_at_call 34; refine (HMk.out _).mono ?_; rintro e w' ⟨rfl, rfl⟩) | (go_at_call 100; refine (HN.out _).mono ?_; rintro e w' ⟨rfl, rfl⟩) | (go_at_call 112; refine (HC.out _).mono ?_; rintro e w' ⟨rfl, rfl⟩))
    go_region
    go_wp2_with fail
    exact bodyPost_ret (v := .tuple #[.agg #[.int .i64 x.tt.length, .int .i64 x.tt.length], .bool false]) (by simp [results, Tryz.results103, go_sem, r0, r1] <;> exact HNil.out) rfl (HS.out _ _ _ _ (by unfold argsI; rw [HCl.out]; simp) (by unfold tosI; rw [HCl.out]; simp) (by unfold okI formI; rw [HCl.out]; simp [HNb.out, HI.out, HL.out]) (below_drew1 ((HH.out.low.setCell HLe.out _).setCell HLe.out _)))
  ·have HI := Lib.hid hi
   have hb : ((x.im : Int) == 0) = false := by simp; omega
   clear hi
   go_wp2_with (first | (go_at_call 34; refine (HMk.out _).mono ?_; rintro e w' ⟨rfl, rfl⟩) | (go_at_call 100; refine (HN.out _).mono ?_; rintro e w' ⟨rfl, rfl⟩) | (go_at_call 112; refine (HC.out _).mono ?_; rintro e w' ⟨rfl, rfl⟩))
   go_region
   go_wp2_with fail
   exact bodyPost_ret (v := .tuple #[.agg #[.int .i64 x.tt.length, .int .i64 x.tt.length], .bool false]) (by simp [results, Tryz.results103, go_sem, r0, r1] <;> omega) rfl (HS.out _ _ _ _ (by unfold argsI; rw [HCl.out]; simp) (by unfold tosI; rw [HCl.out]; simp) (by unfold okI formI; rw [HCl.out]; simp [HNb.out, HI.out]) (below_drew1 ((HH.out.low.setCell HLe.out _).setCell HLe.out _)))
set_option maxRecDepth 100000 in
set_option maxHeartbeats 4000000 in
theorem shape15 (F : Fun) (A : FunA) (x : Ins) (aa ta : Option Addr) (ca ct : Nat) (w : World) (ha : IntsIn w aa x.ar) (ht : IntsIn w ta x.tt) (hc : clsI x.op = 15) :
  Calls Tryz.prog 103 #[funV F A, insV x aa ta ca ct] w (ShapePost F x w) := by
 have HN := Lib.hid (isNumber_any x.wd)
 have HMm := Lib.hid (isMemory_any x.wd)
 have HMk := Lib.hid (Mask_any x.wd)
 have HC := Lib.hid (classOf_any x.op)
 have HS : Hid (∀ (o : Bool) (a t : Int) W', a = argsI F.ret x → t = tosI x → o = okI F.sl.length x → Below w.heap.size w W' → ShapePost F x w (.returned (.tuple #[.agg #[.int .i64 a, .int .i64 t], .bool o])) W') := Lib.hid (fun o a t W' h1 h2 h3 h4 => by subst h1 h2 h3; exact ⟨rfl, h4⟩)
 have HCl := Lib.hid hc
 have HT0 := Lib.hid ht
 have HH := Lib.hid (sh_head (F := F) (A := A) (ca := ca) (ct := ct) ha ht)
 rw [hc] at HC
 clear hc ha ht
 simp only [funV, funC, insV]
 go_enter Tryz.func103, Tryz.ntmps103
 go_upto_region 1 with (fail)
 generalize (((w.alloc (.cells #[.slice A.pa F.ps.length A.pc, .int .i64 F.ret, .slice A.sa F.sl.length A.sc, .slice A.ba F.bs.length A.bc] 31)).alloc (.cells #[.int .i64 x.op, .int .i64 x.wd, .int .i64 x.fl, .slice aa x.ar.length ca, .int .u32 x.im, .slice ta x.tt.length ct] 63)).alloc (.cells #[.int .i64 0, .int .i64 0] 151)) = W at *
 obtain ⟨c0, c1, c2, c3, c4, c5, _, hit⟩ := HH.out.x
 have r0 := HH.out.r0; have r1 := HH.out.r1; have z0 := HH.out.z0; have z1 := HH.out.z1; have f2 := HH.out.f2; have f0 := HH.out.f0
 have HIt := Lib.hid hit
 clear hit
 simp only [Nat.zero_add] at c1 c2 c3 c4 c5
 have hne : w.heap.size + 1 ≠ w.heap.size + 2 := by omega
 have HLe : Hid (w.heap.size ≤ w.heap.size + 1 + 1) := Lib.hid (by omega)
 have hne2 : w.heap.size ≠ w.heap.size + 2 := by omega
 generalize hnb : isNum x.wd = nb at *
 have HNb := Lib.hid hnb; clear hnb
 generalize hmm : isMm x.wd = mm at *
 have HMb := Lib.hid hmm; clear hmm
 by_cases hw : x.wd = 0
 ·have HW := Lib.hid hw
  rw [hw] at c1 HN HMm
  clear hw
  by_cases hi : x.im = 0
  ·have HI := Lib.hid hi
   rw [hi, show ((0 : Nat) : Int) = 0 from rfl] at c4
   clear hi
   go_wp2_with (first | (go_at_call 34; refine (HMk.out _).mono ?_; rintro e w' ⟨rfl, rfl⟩) | (go_at_call 100; refine (HN.out _).mono ?_; rintro e w' ⟨rfl, rfl⟩) | (go_at_call 112; refine (HC.out _).mono ?_; rintro e w' ⟨rfl, rfl⟩))
   go_region
   go_wp2_with fail
   exact bodyPost_ret (v := .tuple #[.agg #[.int .i64 0, .int .i64 1], .bool true]) (by simp [results, Tryz.results103, go_sem, r0, r1] <;> omega) rfl (HS.out _ _ _ _ (by unfold argsI; rw [HCl.out]; simp) (by unfold tosI; rw [HCl.out]; simp) (by unfold okI formI; rw [HCl.out]; simp [HW.out, HI.out]) (below_drew1 ((HH.out.low.setCell HLe.out _).setCell HLe.out _)))
  ·have HI := Lib.hid hi
   have hb : ((x.im : Int) == 0) = false := by simp; omega
   clear hi
   go_wp2_with (first | (go_at_call 34; refine (HMk.out _).mono ?_; rintro e w' ⟨rfl, rfl⟩) | (go_at_call 100; refine (HN.out _).mono ?_; rintro e w' ⟨rfl, rfl⟩) | (go_at_call 112; refine (HC.out _).mono ?_; rintro e w' ⟨rfl, rfl⟩))
   go_region
   go_wp2_with fail
   exact bodyPost_ret (v := .tuple #[.agg #[.int .i64 0, .int .i64 1], .bool false]) (by simp [results, Tryz.results103, go_sem, r0, r1] <;> omega) rfl (HS.out _ _ _ _ (by unfold argsI; rw [HCl.out]; simp) (by unfold tosI; rw [HCl.out]; simp) (by unfold okI formI; rw [HCl.out]; simp [HW.out, HI.out]) (below_drew1 ((HH.out.low.setCell HLe.out _).setCell HLe.out _)))
 ·have HW := Lib.hid hw
  have hwb : (x.wd == 0) = false := by simpa using hw
  clear hw
  go_wp2_with (first | (go_at_call 34; refine (HMk.out _).mono ?_; rintro e w' ⟨rfl, rfl⟩) | (go_at_call 100; refine (HN.out _).mono ?_; rintro e w' ⟨rfl, rfl⟩) | (go_at_call 112; refine (HC.out _).mono ?_; rintro e w' ⟨rfl, rfl⟩))
  go_region
  go_wp2_with fail
  exact bodyPost_ret (v := .tuple #[.agg #[.int .i64 0, .int .i64 1], .bool false]) (by simp [results, Tryz.results103, go_sem, r0, r1] <;> omega) rfl (HS.out _ _ _ _ (by unfold argsI; rw [HCl.out]; simp) (by unfold tosI; rw [HCl.out]; simp) (by unfold okI formI; rw [HCl.out]; simp [HW.out]) (below_drew1 ((HH.out.low.setCell HLe.out _).setCell HLe.out _)))
set_option maxRecDepth 100000 in
set_option maxHeartbeats 4000000 in
theorem shape16 (F : Fun) (A : FunA) (x : Ins) (aa ta : Option Addr) (ca ct : Nat) (w : World) (ha : IntsIn w aa x.ar) (ht : IntsIn w ta x.tt) (hc : clsI x.op = 16) :
  Calls Tryz.prog 103 #[funV F A, insV x aa ta ca ct] w (ShapePost F x w) := by
 have HN := Lib.hid (isNumber_any x.wd)
 have HMm := Lib.hid (isMemory_any x.wd)
 have HMk := Lib.hid (Mask_any x.wd)
 have HC := Lib.hid (classOf_any x.op)
 have HS : Hid (∀ (o : Bool) (a t : Int) W', a = argsI F.ret x → t = tosI x → o = okI F.sl.length x → Below w.heap.size w W' → ShapePost F x w (.returned (.tuple #[.agg #[.int .i64 a, .int .i64 t], .bool o])) W') := Lib.hid (fun o a t W' h1 h2 h3 h4 => by subst h1 h2 h3; exact ⟨rfl, h4⟩)
 have HCl := Lib.hid hc
 have HT0 := Lib.hid ht
 have HH := Lib.hid (sh_head (F := F) (A := A) (ca := ca) (ct := ct) ha ht)
 rw [hc] at HC
 clear hc ha ht
 simp only [funV, funC, insV]
 go_enter Tryz.func103, Tryz.ntmps103
 go_upto_region 1 with (fail)
 generalize (((w.alloc (.cells #[.slice A.pa F.ps.length A.pc, .int .i64 F.ret, .slice A.sa F.sl.length A.sc, .slice A.ba F.bs.length A.bc] 31)).alloc (.cells #[.int .i64 x.op, .int .i64 x.wd, .int .i64 x.fl, .slice aa x.ar.length ca, .int .u32 x.im, .slice ta x.tt.length ct] 63)).alloc (.cells #[.int .i64 0, .int .i64 0] 151)) = W at *
 obtain ⟨c0, c1, c2, c3, c4, c5, _, hit⟩ := HH.out.x
 have r0 := HH.out.r0; have r1 := HH.out.r1; have z0 := HH.out.z0; have z1 := HH.out.z1; have f2 := HH.out.f2; have f0 := HH.out.f0
 have HIt := Lib.hid hit
 clear hit
 simp only [Nat.zero_add] at c1 c2 c3 c4 c5
 have hne : w.heap.size + 1 ≠ w.heap.size + 2 := by omega
 have HLe : Hid (w.heap.size ≤ w.heap.size + 1 + 1) := Lib.hid (by omega)
 have hne2 : w.heap.size ≠ w.heap.size + 2 := by omega
 generalize hnb : isNum x.wd = nb at *
 have HNb := Lib.hid hnb; clear hnb
 generalize hmm : isMm x.wd = mm at *
 have HMb := Lib.hid hmm; clear hmm
 by_cases hw : x.wd = 0
 ·have HW := Lib.hid hw
  rw [hw] at c1 HN HMm
  clear hw
  by_cases hi : x.im = 0
  ·have HI := Lib.hid hi
   rw [hi, show ((0 : Nat) : Int) = 0 from rfl] at c4
   clear hi
   by_cases h2 : x.tt.length = 2
   ·obtain ⟨b0, o0, rfl, hc0⟩ := HT0.out 0 (by omega)
    obtain ⟨b1, o1, e1, hc1⟩ := HT0.out 1 (by omega)
    cases e1
    have hb0 : b0 < w.heap.size := block_lt_of_cell hc0
    have hb0n : b0 ≠ w.heap.size + 2 := by omega
    have hc0 := keep hc0 HH.out.low
    have hc1 := keep hc1 HH.out.low
    rw [Nat.add_zero] at hc0
    have H2 := Lib.hid h2
    rw [h2] at c5
    clear h2
    by_cases he : x.tt.getD 0 0 = x.tt.getD 1 0
    ·have HE := Lib.hid (decide_eq_true he)
     rw [he] at hc0
     clear he
     generalize x.tt.getD 1 0 = t1 at hc0 hc1
     have hne3 : (t1 != t1) = false := by simp
     go_wp2_with (first | (go_at_call 34; refine (HMk.out _).mono ?_; rintro e w' ⟨rfl, rfl⟩) | (go_at_call 100; refine (HN.out _).mono ?_; rintro e w' ⟨rfl, rfl⟩) | (go_at_call 112; refine (HC.out _).mono ?_; rintro e w' ⟨rfl, rfl⟩))
     go_region
     go_wp2_with fail
     exact bodyPost_ret (v := .tuple #[.agg #[.int .i64 1, .int .i64 2], .bool false]) (by simp [results, Tryz.results103, go_sem, r0, r1] <;> omega) rfl (HS.out _ _ _ _ (by unfold argsI; rw [HCl.out]; simp) (by unfold tosI; rw [HCl.out]; simp) (by unfold okI formI; rw [HCl.out, HE.out]; simp [HW.out, HI.out, H2.out]) (below_drew1 ((HH.out.low.setCell HLe.out _).setCell HLe.out _)))
    ·have HE := Lib.hid (decide_eq_false he)
     have hne3 : (x.tt.getD 0 0 != x.tt.getD 1 0) = true := by simpa using he
     clear he
     generalize x.tt.getD 0 0 = t0 at hc0 hne3
     generalize x.tt.getD 1 0 = t1 at hc1 hne3
     go_wp2_with (first | (go_at_call 34; refine (HMk.out _).mono ?_; rintro e w' ⟨rfl, rfl⟩) | (go_at_call 100; refine (HN.out _).mono ?_; rintro e w' ⟨rfl, rfl⟩) | (go_at_call 112; refine (HC.out _).mono ?_; rintro e w' ⟨rfl, rfl⟩))
     go_region
     go_wp2_with fail
     exact bodyPost_ret (v := .tuple #[.agg #[.int .i64 1, .int .i64 2], .bool true]) (by simp [results, Tryz.results103, go_sem, r0, r1] <;> omega) rfl (HS.out _ _ _ _ (by unfold argsI; rw [HCl.out]; simp) (by unfold tosI; rw [HCl.out]; simp) (by unfold okI formI; rw [HCl.out, HE.out]; simp [HW.out, HI.out, H2.out]) (below_drew1 ((HH.out.low.setCell HLe.out _).setCell HLe.out _)))
   ·have H2 := Lib.hid h2
    have h2b : ((x.tt.length : Int) != 2) = true := by simp; omega
    clear h2
    go_wp2_with (first | (go_at_call 34; refine (HMk.out _).mono ?_; rintro e w' ⟨rfl, rfl⟩) | (go_at_call 100; refine (HN.out _).mono ?_; rintro e w' ⟨rfl, rfl⟩) | (go_at_call 112; refine (HC.out _).mono ?_; rintro e w' ⟨rfl, rfl⟩))
    go_region
    go_wp2_with fail
    exact bodyPost_ret (v := .tuple #[.agg #[.int .i64 1, .int .i64 2], .bool true]) (by simp [results, Tryz.results103, go_sem, r0, r1] <;> omega) rfl (HS.out _ _ _ _ (by unfold argsI; rw [HCl.out]; simp) (by unfold tosI; rw [HCl.out]; simp) (by unfold okI formI; rw [HCl.out]; simp [HW.out, HI.out, H2.out]) (below_drew1 ((HH.out.low.setCell HLe.out _).setCell HLe.out _)))
  ·have HI := Lib.hid hi
   have hb : ((x.im : Int) == 0) = false := by simp; omega
   clear hi
   go_wp2_with (first | (go_at_call 34; refine (HMk.out _).mono ?_; rintro e w' ⟨rfl, rfl⟩) | (go_at_call 100; refine (HN.out _).mono ?_; rintro e w' ⟨rfl, rfl⟩) | (go_at_call 112; refine (HC.out _).mono ?_; rintro e w' ⟨rfl, rfl⟩))
   go_region
   go_wp2_with fail
   exact bodyPost_ret (v := .tuple #[.agg #[.int .i64 1, .int .i64 2], .bool false]) (by simp [results, Tryz.results103, go_sem, r0, r1] <;> omega) rfl (HS.out _ _ _ _ (by unfold argsI; rw [HCl.out]; simp) (by unfold tosI; rw [HCl.out]; simp) (by unfold okI formI; rw [HCl.out]; simp [HW.out, HI.out]) (below_drew1 ((HH.out.low.setCell HLe.out _).setCell HLe.out _)))
 ·have HW := Lib.hid hw
  have hwb : (x.wd == 0) = false := by simpa using hw
  clear hw
  go_wp2_with (first | (go_at_call 34; refine (HMk.out _).mono ?_; rintro e w' ⟨rfl, rfl⟩) | (go_at_call 100; refine (HN.out _).mono ?_; rintro e w' ⟨rfl, rfl⟩) | (go_at_call 112; refine (HC.out _).mono ?_; rintro e w' ⟨rfl, rfl⟩))
  go_region
  go_wp2_with fail
  exact bodyPost_ret (v := .tuple #[.agg #[.int .i64 1, .int .i64 2], .bool false]) (by simp [results, Tryz.results103, go_sem, r0, r1] <;> omega) rfl (HS.out _ _ _ _ (by unfold argsI; rw [HCl.out]; simp) (by unfold tosI; rw [HCl.out]; simp) (by unfold okI formI; rw [HCl.out]; simp [HW.out]) (below_drew1 ((HH.out.low.setCell HLe.out _).setCell HLe.out _)))
set_option maxRecDepth 100000 in
set_option maxHeartbeats 4000000 in
theorem shape17 (F : Fun) (A : FunA) (x : Ins) (aa ta : Option Addr) (ca ct : Nat) (w : World) (ha : IntsIn w aa x.ar) (ht : IntsIn w ta x.tt) (hc : clsI x.op = 17) :
  Calls Tryz.prog 103 #[funV F A, insV x aa ta ca ct] w (ShapePost F x w) := by
 have HN := Lib.hid (isNumber_any x.wd)
 have HMm := Lib.hid (isMemory_any x.wd)
 have HMk := Lib.hid (Mask_any x.wd)
 have HC := Lib.hid (classOf_any x.op)
 have HS : Hid (∀ (o : Bool) (a t : Int) W', a = argsI F.ret x → t = tosI x → o = okI F.sl.length x → Below w.heap.size w W' → ShapePost F x w (.returned (.tuple #[.agg #[.int .i64 a, .int .i64 t], .bool o])) W') := Lib.hid (fun o a t W' h1 h2 h3 h4 => by subst h1 h2 h3; exact ⟨rfl, h4⟩)
 have HCl := Lib.hid hc
 have HT0 := Lib.hid ht
 have HH := Lib.hid (sh_head (F := F) (A := A) (ca := ca) (ct := ct) ha ht)
 rw [hc] at HC
 clear hc ha ht
 simp only [funV, funC, insV]
 go_enter Tryz.func103, Tryz.ntmps103
 go_upto_region 1 with (fail)
 generalize (((w.alloc (.cells #[.slice A.pa F.ps.length A.pc, .int .i64 F.ret, .slice A.sa F.sl.length A.sc, .slice A.ba F.bs.length A.bc] 31)).alloc (.cells #[.int .i64 x.op, .int .i64 x.wd, .int .i64 x.fl, .slice aa x.ar.length ca, .int .u32 x.im, .slice ta x.tt.length ct] 63)).alloc (.cells #[.int .i64 0, .int .i64 0] 151)) = W at *
 obtain ⟨c0, c1, c2, c3, c4, c5, _, hit⟩ := HH.out.x
 have r0 := HH.out.r0; have r1 := HH.out.r1; have z0 := HH.out.z0; have z1 := HH.out.z1; have f2 := HH.out.f2; have f0 := HH.out.f0
 have HIt := Lib.hid hit
 clear hit
 simp only [Nat.zero_add] at c1 c2 c3 c4 c5
 have hne : w.heap.size + 1 ≠ w.heap.size + 2 := by omega
 have HLe : Hid (w.heap.size ≤ w.heap.size + 1 + 1) := Lib.hid (by omega)
 have hne2 : w.heap.size ≠ w.heap.size + 2 := by omega
 generalize hnb : isNum x.wd = nb at *
 have HNb := Lib.hid hnb; clear hnb
 generalize hmm : isMm x.wd = mm at *
 have HMb := Lib.hid hmm; clear hmm
 by_cases hw : x.wd = 0
 ·have HW := Lib.hid hw
  rw [hw] at c1 HN HMm
  clear hw
  by_cases hi : x.im = 0
  ·have HI := Lib.hid hi
   rw [hi, show ((0 : Nat) : Int) = 0 from rfl] at c4
   clear hi
   go_wp2_with (first | (go_at_call 34; refine (HMk.out _).mono ?_; rintro e w' ⟨rfl, rfl⟩) | (go_at_call 100; refine (HN.out _).mono ?_; rintro e w' ⟨rfl, rfl⟩) | (go_at_call 112; refine (HC.out _).mono ?_; rintro e w' ⟨rfl, rfl⟩))
   go_region
   all_goals go_wp2_with fail
   all_goals exact bodyPost_ret (v := .tuple #[.agg #[.int .i64 (min F.ret 1), .int .i64 0], .bool true]) (by simp [results, Tryz.results103, go_sem, r0, r1] <;> omega) rfl (HS.out _ _ _ _ (by unfold argsI; rw [HCl.out]; simp) (by unfold tosI; rw [HCl.out]; simp) (by unfold okI formI; rw [HCl.out]; simp [HW.out, HI.out]) (below_drew1 ((HH.out.low.setCell HLe.out _).setCell HLe.out _)))
  ·have HI := Lib.hid hi
   have hb : ((x.im : Int) == 0) = false := by simp; omega
   clear hi
   go_wp2_with (first | (go_at_call 34; refine (HMk.out _).mono ?_; rintro e w' ⟨rfl, rfl⟩) | (go_at_call 100; refine (HN.out _).mono ?_; rintro e w' ⟨rfl, rfl⟩) | (go_at_call 112; refine (HC.out _).mono ?_; rintro e w' ⟨rfl, rfl⟩))
   go_region
   all_goals go_wp2_with fail
   all_goals exact bodyPost_ret (v := .tuple #[.agg #[.int .i64 (min F.ret 1), .int .i64 0], .bool false]) (by simp [results, Tryz.results103, go_sem, r0, r1] <;> omega) rfl (HS.out _ _ _ _ (by unfold argsI; rw [HCl.out]; simp) (by unfold tosI; rw [HCl.out]; simp) (by unfold okI formI; rw [HCl.out]; simp [HW.out, HI.out]) (below_drew1 ((HH.out.low.setCell HLe.out _).setCell HLe.out _)))
 ·have HW := Lib.hid hw
  have hwb : (x.wd == 0) = false := by simpa using hw
  clear hw
  go_wp2_with (first | (go_at_call 34; refine (HMk.out _).mono ?_; rintro e w' ⟨rfl, rfl⟩) | (go_at_call 100; refine (HN.out _).mono ?_; rintro e w' ⟨rfl, rfl⟩) | (go_at_call 112; refine (HC.out _).mono ?_; rintro e w' ⟨rfl, rfl⟩))
  go_region
  all_goals go_wp2_with fail
  all_goals exact bodyPost_ret (v := .tuple #[.agg #[.int .i64 (min F.ret 1), .int .i64 0], .bool false]) (by simp [results, Tryz.results103, go_sem, r0, r1] <;> omega) rfl (HS.out _ _ _ _ (by unfold argsI; rw [HCl.out]; simp) (by unfold tosI; rw [HCl.out]; simp) (by unfold okI formI; rw [HCl.out]; simp [HW.out]) (below_drew1 ((HH.out.low.setCell HLe.out _).setCell HLe.out _)))
set_option maxRecDepth 100000 in
set_option maxHeartbeats 4000000 in
theorem shape18 (F : Fun) (A : FunA) (x : Ins) (aa ta : Option Addr) (ca ct : Nat) (w : World) (ha : IntsIn w aa x.ar) (ht : IntsIn w ta x.tt) (hc : clsI x.op = 18) :
  Calls Tryz.prog 103 #[funV F A, insV x aa ta ca ct] w (ShapePost F x w) := by
 have HN := Lib.hid (isNumber_any x.wd)
 have HMm := Lib.hid (isMemory_any x.wd)
 have HMk := Lib.hid (Mask_any x.wd)
 have HC := Lib.hid (classOf_any x.op)
 have HS : Hid (∀ (o : Bool) (a t : Int) W', a = argsI F.ret x → t = tosI x → o = okI F.sl.length x → Below w.heap.size w W' → ShapePost F x w (.returned (.tuple #[.agg #[.int .i64 a, .int .i64 t], .bool o])) W') := Lib.hid (fun o a t W' h1 h2 h3 h4 => by subst h1 h2 h3; exact ⟨rfl, h4⟩)
 have HCl := Lib.hid hc
 have HT0 := Lib.hid ht
 have HH := Lib.hid (sh_head (F := F) (A := A) (ca := ca) (ct := ct) ha ht)
 rw [hc] at HC
 clear hc ha ht
 simp only [funV, funC, insV]
 go_enter Tryz.func103, Tryz.ntmps103
 go_upto_region 1 with (fail)
 generalize (((w.alloc (.cells #[.slice A.pa F.ps.length A.pc, .int .i64 F.ret, .slice A.sa F.sl.length A.sc, .slice A.ba F.bs.length A.bc] 31)).alloc (.cells #[.int .i64 x.op, .int .i64 x.wd, .int .i64 x.fl, .slice aa x.ar.length ca, .int .u32 x.im, .slice ta x.tt.length ct] 63)).alloc (.cells #[.int .i64 0, .int .i64 0] 151)) = W at *
 obtain ⟨c0, c1, c2, c3, c4, c5, _, hit⟩ := HH.out.x
 have r0 := HH.out.r0; have r1 := HH.out.r1; have z0 := HH.out.z0; have z1 := HH.out.z1; have f2 := HH.out.f2; have f0 := HH.out.f0
 have HIt := Lib.hid hit
 clear hit
 simp only [Nat.zero_add] at c1 c2 c3 c4 c5
 have hne : w.heap.size + 1 ≠ w.heap.size + 2 := by omega
 have HLe : Hid (w.heap.size ≤ w.heap.size + 1 + 1) := Lib.hid (by omega)
 have hne2 : w.heap.size ≠ w.heap.size + 2 := by omega
 generalize hnb : isNum x.wd = nb at *
 have HNb := Lib.hid hnb; clear hnb
 generalize hmm : isMm x.wd = mm at *
 have HMb := Lib.hid hmm; clear hmm
 by_cases hw : x.wd = 0
 ·have HW := Lib.hid hw
  rw [hw] at c1 HN HMm
  clear hw
  by_cases hi : x.im = 0
  ·have HI := Lib.hid hi
   rw [hi, show ((0 : Nat) : Int) = 0 from rfl] at c4
   clear hi
   go_wp2_with (first | (go_at_call 34; refine (HMk.out _).mono ?_; rintro e w' ⟨rfl, rfl⟩) | (go_at_call 100; refine (HN.out _).mono ?_; rintro e w' ⟨rfl, rfl⟩) | (go_at_call 112; refine (HC.out _).mono ?_; rintro e w' ⟨rfl, rfl⟩))
   go_region
   go_wp2_with fail
   exact bodyPost_ret (v := .tuple #[.agg #[.int .i64 0, .int .i64 0], .bool true]) (by simp [results, Tryz.results103, go_sem, r0, r1] <;> omega) rfl (HS.out _ _ _ _ (by unfold argsI; rw [HCl.out]; simp) (by unfold tosI; rw [HCl.out]; simp) (by unfold okI formI; rw [HCl.out]; simp [HW.out, HI.out]) (below_drew1 ((HH.out.low.setCell HLe.out _).setCell HLe.out _)))
  ·have HI := Lib.hid hi
   have hb : ((x.im : Int) == 0) = false := by simp; omega
   clear hi
   go_wp2_with (first | (go_at_call 34; refine (HMk.out _).mono ?_; rintro e w' ⟨rfl, rfl⟩) | (go_at_call 100; refine (HN.out _).mono ?_; rintro e w' ⟨rfl, rfl⟩) | (go_at_call 112; refine (HC.out _).mono ?_; rintro e w' ⟨rfl, rfl⟩))
   go_region
   go_wp2_with fail
   exact bodyPost_ret (v := .tuple #[.agg #[.int .i64 0, .int .i64 0], .bool false]) (by simp [results, Tryz.results103, go_sem, r0, r1] <;> omega) rfl (HS.out _ _ _ _ (by unfold argsI; rw [HCl.out]; simp) (by unfold tosI; rw [HCl.out]; simp) (by unfold okI formI; rw [HCl.out]; simp [HW.out, HI.out]) (below_drew1 ((HH.out.low.setCell HLe.out _).setCell HLe.out _)))
 ·have HW := Lib.hid hw
  have hwb : (x.wd == 0) = false := by simpa using hw
  clear hw
  go_wp2_with (first | (go_at_call 34; refine (HMk.out _).mono ?_; rintro e w' ⟨rfl, rfl⟩) | (go_at_call 100; refine (HN.out _).mono ?_; rintro e w' ⟨rfl, rfl⟩) | (go_at_call 112; refine (HC.out _).mono ?_; rintro e w' ⟨rfl, rfl⟩))
  go_region
  go_wp2_with fail
  exact bodyPost_ret (v := .tuple #[.agg #[.int .i64 0, .int .i64 0], .bool false]) (by simp [results, Tryz.results103, go_sem, r0, r1] <;> omega) rfl (HS.out _ _ _ _ (by unfold argsI; rw [HCl.out]; simp) (by unfold tosI; rw [HCl.out]; simp) (by unfold okI formI; rw [HCl.out]; simp [HW.out]) (below_drew1 ((HH.out.low.setCell HLe.out _).setCell HLe.out _)))
end Go.Proofs.YtbbbflnnbbaamaaGreatDoor.PK
