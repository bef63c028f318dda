/- Packed of several texts. -/
import Derived.Test.YtbbbflnnbbaamaaGreatDoorH23
namespace Go.Proofs.YtbbbflnnbbaamaaGreatDoor.PK
open Go.RowKit

set_option maxRecDepth 100000 in
set_option maxHeartbeats 4000000 in
theorem shape7 (F : Fun) (A : FunA) (x : Ins) (aa ta : Option Addr) (ca ct : Nat) (w : World) (ha : IntsIn w aa x.ar) (ht : IntsIn w ta x.tt) (hc : clsI x.op = 7) :
  Calls Tryz.prog 103 #[funV F A, insV x aa ta ca ct] w (ShapePost F x w) := by
 have HN := Lib.hid (isNumber_any x.wd)
 have HMm := Lib.hid (isMemory_any x.wd)
 have HMk := Lib.hid (Mask_any x.wd)
 have HC := Lib.hid (classOf_any x.op)
 have HS : Hid (∀ (o : Bool) (a t : Int) W', a = argsI F.ret x → t = tosI x → o = okI F.sl.length x → Below w.heap.size w W' → ShapePost F x w (.returned (.tuple #[.agg #[.int .i64 a, .int .i64 t], .bool o])) W') := Lib.hid (fun o a t W' h1 h2 h3 h4 => by subst h1 h2 h3; exact ⟨rfl, h4⟩)
 have HCl := Lib.hid hc
 have HT0 := Lib.hid ht
 have HH := Lib.hid (sh_head (F := F) (A := A) (ca := ca) (ct := ct) ha ht)
 rw [hc] at HC
 clear hc ha ht
 simp only [funV, funC, insV]
 go_enter Tryz.func103, Tryz.ntmps103
 go_upto_region 1 with (fail)
 generalize (((w.alloc (.cells #[.slice A.pa F.ps.length A.pc, .int .i64 F.ret, .slice A.sa F.sl.length A.sc, .slice A.ba F.bs.length A.bc] 31)).alloc (.cells #[.int .i64 x.op, .int .i64 x.wd, .int .i64 x.fl, .slice aa x.ar.length ca, .int .u32 x.im, .slice ta x.tt.length ct] 63)).alloc (.cells #[.int .i64 0, .int .i64 0] 151)) = W at *
 obtain ⟨c0, c1, c2, c3, c4, c5, _, hit⟩ := HH.out.x
 have r0 := HH.out.r0; have r1 := HH.out.r1; have z0 := HH.out.z0; have z1 := HH.out.z1; have f2 := HH.out.f2; have f0 := HH.out.f0
 have HIt := Lib.hid hit
 clear hit
 simp only [Nat.zero_add] at c1 c2 c3 c4 c5
 have hne : w.heap.size + 1 ≠ w.heap.size + 2 := by omega
 have HLe : Hid (w.heap.size ≤ w.heap.size + 1 + 1) := Lib.hid (by omega)
 have hne2 : w.heap.size ≠ w.heap.size + 2 := by omega
 generalize hnb : isNum x.wd = nb at *
 have HNb := Lib.hid hnb; clear hnb
 generalize hmm : isMm x.wd = mm at *
 have HMb := Lib.hid hmm; clear hmm
 cases nb
 ·skip
  go_wp2_with (first | (go_at_call 34; refine (HMk.out _).mono ?_; rintro e w' ⟨rfl, rfl⟩) | (go_at_call 100; refine (HN.out _).mono ?_; rintro e w' ⟨rfl, rfl⟩) | (go_at_call 112; refine (HC.out _).mono ?_; rintro e w' ⟨rfl, rfl⟩))
  go_region
  go_wp2_with fail
  exact bodyPost_ret (v := .tuple #[.agg #[.int .i64 2, .int .i64 0], .bool false]) (by simp [results, Tryz.results103, go_sem, r0, r1] <;> omega) rfl (HS.out _ _ _ _ (by unfold argsI; rw [HCl.out]; simp) (by unfold tosI; rw [HCl.out]; simp) (by unfold okI formI; rw [HCl.out]; simp [HNb.out]) (below_drew1 ((HH.out.low.setCell HLe.out _).setCell HLe.out _)))
 ·skip
  by_cases hi : 1 ≤ x.im
  ·have HI := Lib.hid hi
   have hb : (1 : Int) ≤ (x.im : Int) := by omega
   clear hi
   have hww := IntWalk.u32_in x.wd (by have := isNum_iff.1 HNb.out; omega)
   by_cases hj : (x.im : Int) < x.wd
   ·have HJ := Lib.hid hj
    obtain ⟨wn, hwn⟩ : ∃ wn : Nat, x.wd = wn := ⟨x.wd.toNat, by have := isNum_iff.1 HNb.out; omega⟩
    have HWn := Lib.hid hwn
    have HWt : Hid (x.wd.toNat = wn) := Lib.hid (by rw [hwn]; simp)
    rw [hwn] at c1 HN HMm hww hj
    clear hwn
    by_cases hr : wn % x.im = 0
    ·have HR := Lib.hid hr
     have hrb : ((wn : Int) % (x.im : Int) == 0) = true := by simp; omega
     clear hr
     go_wp2_with (first | (go_at_call 34; refine (HMk.out _).mono ?_; rintro e w' ⟨rfl, rfl⟩) | (go_at_call 100; refine (HN.out _).mono ?_; rintro e w' ⟨rfl, rfl⟩) | (go_at_call 112; refine (HC.out _).mono ?_; rintro e w' ⟨rfl, rfl⟩))
     go_region
     go_wp2_with fail
     exact bodyPost_ret (v := .tuple #[.agg #[.int .i64 2, .int .i64 0], .bool true]) (by simp [results, Tryz.results103, go_sem, r0, r1] <;> omega) rfl (HS.out _ _ _ _ (by unfold argsI; rw [HCl.out]; simp) (by unfold tosI; rw [HCl.out]; simp) (by unfold okI formI; rw [HCl.out]; simp [HNb.out, HI.out, HJ.out, HWt.out, HR.out]) (below_drew1 ((HH.out.low.setCell HLe.out _).setCell HLe.out _)))
    ·have HR := Lib.hid hr
     have hrb : ((wn : Int) % (x.im : Int) == 0) = false := by simp; omega
     clear hr
     go_wp2_with (first | (go_at_call 34; refine (HMk.out _).mono ?_; rintro e w' ⟨rfl, rfl⟩) | (go_at_call 100; refine (HN.out _).mono ?_; rintro e w' ⟨rfl, rfl⟩) | (go_at_call 112; refine (HC.out _).mono ?_; rintro e w' ⟨rfl, rfl⟩))
     go_region
     go_wp2_with fail
     exact bodyPost_ret (v := .tuple #[.agg #[.int .i64 2, .int .i64 0], .bool false]) (by simp [results, Tryz.results103, go_sem, r0, r1] <;> omega) rfl (HS.out _ _ _ _ (by unfold argsI; rw [HCl.out]; simp) (by unfold tosI; rw [HCl.out]; simp) (by unfold okI formI; rw [HCl.out]; simp [HNb.out, HI.out, HJ.out, HWt.out, HR.out]) (below_drew1 ((HH.out.low.setCell HLe.out _).setCell HLe.out _)))
   ·have HJ := Lib.hid hj
    have hjd : decide ((x.im : Int) < x.wd) = false := decide_eq_false hj
    have hjl : x.wd ≤ (x.im : Int) := by omega
    have HJl := Lib.hid hjl
    go_wp2_with (first | (go_at_call 34; refine (HMk.out _).mono ?_; rintro e w' ⟨rfl, rfl⟩) | (go_at_call 100; refine (HN.out _).mono ?_; rintro e w' ⟨rfl, rfl⟩) | (go_at_call 112; refine (HC.out _).mono ?_; rintro e w' ⟨rfl, rfl⟩))
    go_region
    go_wp2_with fail
    exact bodyPost_ret (v := .tuple #[.agg #[.int .i64 2, .int .i64 0], .bool false]) (by simp [results, Tryz.results103, go_sem, r0, r1] <;> omega) rfl (HS.out _ _ _ _ (by unfold argsI; rw [HCl.out]; simp) (by unfold tosI; rw [HCl.out]; simp) (by unfold okI formI; rw [HCl.out]; simp [HNb.out, HI.out, Int.not_lt.2 HJl.out]) (below_drew1 ((HH.out.low.setCell HLe.out _).setCell HLe.out _)))
  ·have HI := Lib.hid hi
   have hb : ¬ (1 : Int) ≤ (x.im : Int) := by omega
   have hbd : decide ((1 : Int) ≤ (x.im : Int)) = false := by simpa using hb
   obtain himz : x.im = 0 := by omega
   rw [himz, show ((0 : Nat) : Int) = 0 from rfl] at c4
   clear hb hbd himz
   clear hi
   go_wp2_with (first | (go_at_call 34; refine (HMk.out _).mono ?_; rintro e w' ⟨rfl, rfl⟩) | (go_at_call 100; refine (HN.out _).mono ?_; rintro e w' ⟨rfl, rfl⟩) | (go_at_call 112; refine (HC.out _).mono ?_; rintro e w' ⟨rfl, rfl⟩))
   go_region
   go_wp2_with fail
   exact bodyPost_ret (v := .tuple #[.agg #[.int .i64 2, .int .i64 0], .bool false]) (by simp [results, Tryz.results103, go_sem, r0, r1] <;> omega) rfl (HS.out _ _ _ _ (by unfold argsI; rw [HCl.out]; simp) (by unfold tosI; rw [HCl.out]; simp) (by unfold okI formI; rw [HCl.out]; simp [HNb.out, HI.out]) (below_drew1 ((HH.out.low.setCell HLe.out _).setCell HLe.out _)))
set_option maxRecDepth 100000 in
set_option maxHeartbeats 4000000 in
theorem shape8 (F : Fun) (A : FunA) (x : Ins) (aa ta : Option Addr) (ca ct : Nat) (w : World) (ha : IntsIn w aa x.ar) (ht : IntsIn w ta x.tt) (hc : clsI x.op = 8) :
  Calls Tryz.prog 103 #[funV F A, insV x aa ta ca ct] w (ShapePost F x w) := by
 have HN := Lib.hid (isNumber_any x.wd)
 have HMm := Lib.hid (isMemory_any x.wd)
 have HMk := Lib.hid (Mask_any x.wd)
 have HC := Lib.hid (classOf_any x.op)
 have HS : Hid (∀ (o : Bool) (a t : Int) W', a = argsI F.ret x → t = tosI x → o = okI F.sl.length x → Below w.heap.size w W' → ShapePost F x w (.returned (.tuple #[.agg #[.int .i64 a, .int .i64 t], .bool o])) W') := Lib.hid (fun o a t W' h1 h2 h3 h4 => by subst h1 h2 h3; exact ⟨rfl, h4⟩)
 have HCl := Lib.hid hc
 have HT0 := Lib.hid ht
 have HH := Lib.hid (sh_head (F := F) (A := A) (ca := ca) (ct := ct) ha ht)
 rw [hc] at HC
 clear hc ha ht
 simp only [funV, funC, insV]
 go_enter Tryz.func103, Tryz.ntmps103
 go_upto_region 1 with (fail)
 generalize (((w.alloc (.cells #[.slice A.pa F.ps.length A.pc, .int .i64 F.ret, .slice A.sa F.sl.length A.sc, .slice A.ba F.bs.length A.bc] 31)).alloc (.cells #[.int .i64 x.op, .int .i64 x.wd, .int .i64 x.fl, .slice aa x.ar.length ca, .int .u32 x.im, .slice ta x.tt.length ct] 63)).alloc (.cells #[.int .i64 0, .int .i64 0] 151)) = W at *
 obtain ⟨c0, c1, c2, c3, c4, c5, _, hit⟩ := HH.out.x
 have r0 := HH.out.r0; have r1 := HH.out.r1; have z0 := HH.out.z0; have z1 := HH.out.z1; have f2 := HH.out.f2; have f0 := HH.out.f0
 have HIt := Lib.hid hit
 clear hit
 simp only [Nat.zero_add] at c1 c2 c3 c4 c5
 have hne : w.heap.size + 1 ≠ w.heap.size + 2 := by omega
 have HLe : Hid (w.heap.size ≤ w.heap.size + 1 + 1) := Lib.hid (by omega)
 have hne2 : w.heap.size ≠ w.heap.size + 2 := by omega
 generalize hnb : isNum x.wd = nb at *
 have HNb := Lib.hid hnb; clear hnb
 generalize hmm : isMm x.wd = mm at *
 have HMb := Lib.hid hmm; clear hmm
 cases nb
 ·skip
  go_wp2_with (first | (go_at_call 34; refine (HMk.out _).mono ?_; rintro e w' ⟨rfl, rfl⟩) | (go_at_call 100; refine (HN.out _).mono ?_; rintro e w' ⟨rfl, rfl⟩) | (go_at_call 112; refine (HC.out _).mono ?_; rintro e w' ⟨rfl, rfl⟩))
  go_region
  go_wp2_with fail
  exact bodyPost_ret (v := .tuple #[.agg #[.int .i64 1, .int .i64 0], .bool false]) (by simp [results, Tryz.results103, go_sem, r0, r1] <;> omega) rfl (HS.out _ _ _ _ (by unfold argsI; rw [HCl.out]; simp) (by unfold tosI; rw [HCl.out]; simp) (by unfold okI formI; rw [HCl.out]; simp [HNb.out]) (below_drew1 ((HH.out.low.setCell HLe.out _).setCell HLe.out _)))
 ·skip
  by_cases hi : x.im = 0
  ·have HI := Lib.hid hi
   rw [hi, show ((0 : Nat) : Int) = 0 from rfl] at c4
   clear hi
   go_wp2_with (first | (go_at_call 34; refine (HMk.out _).mono ?_; rintro e w' ⟨rfl, rfl⟩) | (go_at_call 100; refine (HN.out _).mono ?_; rintro e w' ⟨rfl, rfl⟩) | (go_at_call 112; refine (HC.out _).mono ?_; rintro e w' ⟨rfl, rfl⟩))
   go_region
   go_wp2_with fail
   exact bodyPost_ret (v := .tuple #[.agg #[.int .i64 1, .int .i64 0], .bool true]) (by simp [results, Tryz.results103, go_sem, r0, r1] <;> omega) rfl (HS.out _ _ _ _ (by unfold argsI; rw [HCl.out]; simp) (by unfold tosI; rw [HCl.out]; simp) (by unfold okI formI; rw [HCl.out]; simp [HNb.out, HI.out]) (below_drew1 ((HH.out.low.setCell HLe.out _).setCell HLe.out _)))
  ·have HI := Lib.hid hi
   have hb : ((x.im : Int) == 0) = false := by simp; omega
   clear hi
   go_wp2_with (first | (go_at_call 34; refine (HMk.out _).mono ?_; rintro e w' ⟨rfl, rfl⟩) | (go_at_call 100; refine (HN.out _).mono ?_; rintro e w' ⟨rfl, rfl⟩) | (go_at_call 112; refine (HC.out _).mono ?_; rintro e w' ⟨rfl, rfl⟩))
   go_region
   go_wp2_with fail
   exact bodyPost_ret (v := .tuple #[.agg #[.int .i64 1, .int .i64 0], .bool false]) (by simp [results, Tryz.results103, go_sem, r0, r1] <;> omega) rfl (HS.out _ _ _ _ (by unfold argsI; rw [HCl.out]; simp) (by unfold tosI; rw [HCl.out]; simp) (by unfold okI formI; rw [HCl.out]; simp [HNb.out, HI.out]) (below_drew1 ((HH.out.low.setCell HLe.out _).setCell HLe.out _)))
set_option maxRecDepth 100000 in
set_option maxHeartbeats 4000000 in
theorem shape9 (F : Fun) (A : FunA) (x : Ins) (aa ta : Option Addr) (ca ct : Nat) (w : World) (ha : IntsIn w aa x.ar) (ht : IntsIn w ta x.tt) (hc : clsI x.op = 9) :
  Calls Tryz.prog 103 #[funV F A, insV x aa ta ca ct] w (ShapePost F x w) := by
 have HN := Lib.hid (isNumber_any x.wd)
 have HMm := Lib.hid (isMemory_any x.wd)
 have HMk := Lib.hid (Mask_any x.wd)
 have HC := Lib.hid (classOf_any x.op)
 have HS : Hid (∀ (o : Bool) (a t : Int) W', a = argsI F.ret x → t = tosI x → o = okI F.sl.length x → Below w.heap.size w W' → ShapePost F x w (.returned (.tuple #[.agg #[.int .i64 a, .int .i64 t], .bool o])) W') := Lib.hid (fun o a t W' h1 h2 h3 h4 => by subst h1 h2 h3; exact ⟨rfl, h4⟩)
 have HCl := Lib.hid hc
 have HT0 := Lib.hid ht
 have HH := Lib.hid (sh_head (F := F) (A := A) (ca := ca) (ct := ct) ha ht)
 rw [hc] at HC
 clear hc ha ht
 simp only [funV, funC, insV]
 go_enter Tryz.func103, Tryz.ntmps103
 go_upto_region 1 with (fail)
 generalize (((w.alloc (.cells #[.slice A.pa F.ps.length A.pc, .int .i64 F.ret, .slice A.sa F.sl.length A.sc, .slice A.ba F.bs.length A.bc] 31)).alloc (.cells #[.int .i64 x.op, .int .i64 x.wd, .int .i64 x.fl, .slice aa x.ar.length ca, .int .u32 x.im, .slice ta x.tt.length ct] 63)).alloc (.cells #[.int .i64 0, .int .i64 0] 151)) = W at *
 obtain ⟨c0, c1, c2, c3, c4, c5, _, hit⟩ := HH.out.x
 have r0 := HH.out.r0; have r1 := HH.out.r1; have z0 := HH.out.z0; have z1 := HH.out.z1; have f2 := HH.out.f2; have f0 := HH.out.f0
 have HIt := Lib.hid hit
 clear hit
 simp only [Nat.zero_add] at c1 c2 c3 c4 c5
 have hne : w.heap.size + 1 ≠ w.heap.size + 2 := by omega
 have HLe : Hid (w.heap.size ≤ w.heap.size + 1 + 1) := Lib.hid (by omega)
 have hne2 : w.heap.size ≠ w.heap.size + 2 := by omega
 generalize hnb : isNum x.wd = nb at *
 have HNb := Lib.hid hnb; clear hnb
 generalize hmm : isMm x.wd = mm at *
 have HMb := Lib.hid hmm; clear hmm
 cases nb
 ·skip
  go_wp2_with (first | (go_at_call 34; refine (HMk.out _).mono ?_; rintro e w' ⟨rfl, rfl⟩) | (go_at_call 100; refine (HN.out _).mono ?_; rintro e w' ⟨rfl, rfl⟩) | (go_at_call 112; refine (HC.out _).mono ?_; rintro e w' ⟨rfl, rfl⟩))
  go_region
  go_wp2_with fail
  exact bodyPost_ret (v := .tuple #[.agg #[.int .i64 0, .int .i64 0], .bool false]) (by simp [results, Tryz.results103, go_sem, r0, r1] <;> omega) rfl (HS.out _ _ _ _ (by unfold argsI; rw [HCl.out]; simp) (by unfold tosI; rw [HCl.out]; simp) (by unfold okI formI; rw [HCl.out]; simp [HNb.out]) (below_drew1 ((HH.out.low.setCell HLe.out _).setCell HLe.out _)))
 ·skip
  by_cases hi : x.im = 0
  ·have HI := Lib.hid hi
   rw [hi, show ((0 : Nat) : Int) = 0 from rfl] at c4
   clear hi
   go_wp2_with (first | (go_at_call 34; refine (HMk.out _).mono ?_; rintro e w' ⟨rfl, rfl⟩) | (go_at_call 100; refine (HN.out _).mono ?_; rintro e w' ⟨rfl, rfl⟩) | (go_at_call 112; refine (HC.out _).mono ?_; rintro e w' ⟨rfl, rfl⟩))
   go_region
   go_wp2_with fail
   exact bodyPost_ret (v := .tuple #[.agg #[.int .i64 0, .int .i64 0], .bool true]) (by simp [results, Tryz.results103, go_sem, r0, r1] <;> omega) rfl (HS.out _ _ _ _ (by unfold argsI; rw [HCl.out]; simp) (by unfold tosI; rw [HCl.out]; simp) (by unfold okI formI; rw [HCl.out]; simp [HNb.out, HI.out]) (below_drew1 ((HH.out.low.setCell HLe.out _).setCell HLe.out _)))
  ·have HI := Lib.hid hi
   have hb : ((x.im : Int) == 0) = false := by simp; omega
   clear hi
   go_wp2_with (first | (go_at_call 34; refine (HMk.out _).mono ?_; rintro e w' ⟨rfl, rfl⟩) | (go_at_call 100; refine (HN.out _).mono ?_; rintro e w' ⟨rfl, rfl⟩) | (go_at_call 112; refine (HC.out _).mono ?_; rintro e w' ⟨rfl, rfl⟩))
   go_region
   go_wp2_with fail
   exact bodyPost_ret (v := .tuple #[.agg #[.int .i64 0, .int .i64 0], .bool false]) (by simp [results, Tryz.results103, go_sem, r0, r1] <;> omega) rfl (HS.out _ _ _ _ (by unfold argsI; rw [HCl.out]; simp) (by unfold tosI; rw [HCl.out]; simp) (by unfold okI formI; rw [HCl.out]; simp [HNb.out, HI.out]) (below_drew1 ((HH.out.low.setCell HLe.out _).setCell HLe.out _)))
set_option maxRecDepth 100000 in
set_option maxHeartbeats 4000000 in
theorem shape10 (F : Fun) (A : FunA) (x : Ins) (aa ta : Option Addr) (ca ct : Nat) (w : World) (ha : IntsIn w aa x.ar) (ht : IntsIn w ta x.tt) (him : x.im < 4294967296) (hsl : F.sl.length ≤ 1000) (hc : clsI x.op = 10) :
  Calls Tryz.prog 103 #[funV F A, insV x aa ta ca ct] w (ShapePost F x w) := by
 have HN := Lib.hid (isNumber_any x.wd)
 have HMm := Lib.hid (isMemory_any x.wd)
 have HMk := Lib.hid (Mask_any x.wd)
 have HC := Lib.hid (classOf_any x.op)
 have HS : Hid (∀ (o : Bool) (a t : Int) W', a = argsI F.ret x → t = tosI x → o = okI F.sl.length x → Below w.heap.size w W' → ShapePost F x w (.returned (.tuple #[.agg #[.int .i64 a, .int .i64 t], .bool o])) W') := Lib.hid (fun o a t W' h1 h2 h3 h4 => by subst h1 h2 h3; exact ⟨rfl, h4⟩)
 have HCl := Lib.hid hc
 have HT0 := Lib.hid ht
 have HH := Lib.hid (sh_head (F := F) (A := A) (ca := ca) (ct := ct) ha ht)
 rw [hc] at HC
 clear hc ha ht
 simp only [funV, funC, insV]
 go_enter Tryz.func103, Tryz.ntmps103
 go_upto_region 1 with (fail)
 generalize (((w.alloc (.cells #[.slice A.pa F.ps.length A.pc, .int .i64 F.ret, .slice A.sa F.sl.length A.sc, .slice A.ba F.bs.length A.bc] 31)).alloc (.cells #[.int .i64 x.op, .int .i64 x.wd, .int .i64 x.fl, .slice aa x.ar.length ca, .int .u32 x.im, .slice ta x.tt.length ct] 63)).alloc (.cells #[.int .i64 0, .int .i64 0] 151)) = W at *
 obtain ⟨c0, c1, c2, c3, c4, c5, _, hit⟩ := HH.out.x
 have r0 := HH.out.r0; have r1 := HH.out.r1; have z0 := HH.out.z0; have z1 := HH.out.z1; have f2 := HH.out.f2; have f0 := HH.out.f0
 have HIt := Lib.hid hit
 clear hit
 simp only [Nat.zero_add] at c1 c2 c3 c4 c5
 have hne : w.heap.size + 1 ≠ w.heap.size + 2 := by omega
 have HLe : Hid (w.heap.size ≤ w.heap.size + 1 + 1) := Lib.hid (by omega)
 have hne2 : w.heap.size ≠ w.heap.size + 2 := by omega
 generalize hnb : isNum x.wd = nb at *
 have HNb := Lib.hid hnb; clear hnb
 generalize hmm : isMm x.wd = mm at *
 have HMb := Lib.hid hmm; clear hmm
 by_cases hw : x.wd = 33
 ·have HW := Lib.hid hw
  rw [hw] at c1 HN HMm
  clear hw
  have hw1 := IntWalk.u64_in (x.im : Int) (by omega)
  have hw2 := IntWalk.u64_in (F.sl.length : Int) (by omega)
  by_cases hi : x.im < F.sl.length
  ·have HI := Lib.hid hi
   have hb : (x.im : Int) < (F.sl.length : Int) := by omega
   clear hi
   go_wp2_with (first | (go_at_call 34; refine (HMk.out _).mono ?_; rintro e w' ⟨rfl, rfl⟩) | (go_at_call 100; refine (HN.out _).mono ?_; rintro e w' ⟨rfl, rfl⟩) | (go_at_call 112; refine (HC.out _).mono ?_; rintro e w' ⟨rfl, rfl⟩))
   go_region
   go_wp2_with fail
   exact bodyPost_ret (v := .tuple #[.agg #[.int .i64 0, .int .i64 0], .bool true]) (by simp [results, Tryz.results103, go_sem, r0, r1] <;> omega) rfl (HS.out _ _ _ _ (by unfold argsI; rw [HCl.out]; simp) (by unfold tosI; rw [HCl.out]; simp) (by unfold okI formI; rw [HCl.out]; simp [HW.out, HI.out]) (below_drew1 ((HH.out.low.setCell HLe.out _).setCell HLe.out _)))
  ·have HI := Lib.hid hi
   have hb : ¬ (x.im : Int) < (F.sl.length : Int) := by omega
   clear hi
   go_wp2_with (first | (go_at_call 34; refine (HMk.out _).mono ?_; rintro e w' ⟨rfl, rfl⟩) | (go_at_call 100; refine (HN.out _).mono ?_; rintro e w' ⟨rfl, rfl⟩) | (go_at_call 112; refine (HC.out _).mono ?_; rintro e w' ⟨rfl, rfl⟩))
   go_region
   go_wp2_with fail
   exact bodyPost_ret (v := .tuple #[.agg #[.int .i64 0, .int .i64 0], .bool false]) (by simp [results, Tryz.results103, go_sem, r0, r1] <;> omega) rfl (HS.out _ _ _ _ (by unfold argsI; rw [HCl.out]; simp) (by unfold tosI; rw [HCl.out]; simp) (by unfold okI formI; rw [HCl.out]; simp [HW.out, HI.out]) (below_drew1 ((HH.out.low.setCell HLe.out _).setCell HLe.out _)))
 ·have HW := Lib.hid hw
  have hwb : (x.wd == 33) = false := by simpa using hw
  clear hw
  go_wp2_with (first | (go_at_call 34; refine (HMk.out _).mono ?_; rintro e w' ⟨rfl, rfl⟩) | (go_at_call 100; refine (HN.out _).mono ?_; rintro e w' ⟨rfl, rfl⟩) | (go_at_call 112; refine (HC.out _).mono ?_; rintro e w' ⟨rfl, rfl⟩))
  go_region
  go_wp2_with fail
  exact bodyPost_ret (v := .tuple #[.agg #[.int .i64 0, .int .i64 0], .bool false]) (by simp [results, Tryz.results103, go_sem, r0, r1] <;> omega) rfl (HS.out _ _ _ _ (by unfold argsI; rw [HCl.out]; simp) (by unfold tosI; rw [HCl.out]; simp) (by unfold okI formI; rw [HCl.out]; simp [HW.out]) (below_drew1 ((HH.out.low.setCell HLe.out _).setCell HLe.out _)))
set_option maxRecDepth 100000 in
set_option maxHeartbeats 4000000 in
theorem shape11 (F : Fun) (A : FunA) (x : Ins) (aa ta : Option Addr) (ca ct : Nat) (w : World) (ha : IntsIn w aa x.ar) (ht : IntsIn w ta x.tt) (hc : clsI x.op = 11) :
  Calls Tryz.prog 103 #[funV F A, insV x aa ta ca ct] w (ShapePost F x w) := by
 have HN := Lib.hid (isNumber_any x.wd)
 have HMm := Lib.hid (isMemory_any x.wd)
 have HMk := Lib.hid (Mask_any x.wd)
 have HC := Lib.hid (classOf_any x.op)
 have HS : Hid (∀ (o : Bool) (a t : Int) W', a = argsI F.ret x → t = tosI x → o = okI F.sl.length x → Below w.heap.size w W' → ShapePost F x w (.returned (.tuple #[.agg #[.int .i64 a, .int .i64 t], .bool o])) W') := Lib.hid (fun o a t W' h1 h2 h3 h4 => by subst h1 h2 h3; exact ⟨rfl, h4⟩)
 have HCl := Lib.hid hc
 have HT0 := Lib.hid ht
 have HH := Lib.hid (sh_head (F := F) (A := A) (ca := ca) (ct := ct) ha ht)
 rw [hc] at HC
 clear hc ha ht
 simp only [funV, funC, insV]
 go_enter Tryz.func103, Tryz.ntmps103
 go_upto_region 1 with (fail)
 generalize (((w.alloc (.cells #[.slice A.pa F.ps.length A.pc, .int .i64 F.ret, .slice A.sa F.sl.length A.sc, .slice A.ba F.bs.length A.bc] 31)).alloc (.cells #[.int .i64 x.op, .int .i64 x.wd, .int .i64 x.fl, .slice aa x.ar.length ca, .int .u32 x.im, .slice ta x.tt.length ct] 63)).alloc (.cells #[.int .i64 0, .int .i64 0] 151)) = W at *
 obtain ⟨c0, c1, c2, c3, c4, c5, _, hit⟩ := HH.out.x
 have r0 := HH.out.r0; have r1 := HH.out.r1; have z0 := HH.out.z0; have z1 := HH.out.z1; have f2 := HH.out.f2; have f0 := HH.out.f0
 have HIt := Lib.hid hit
 clear hit
 simp only [Nat.zero_add] at c1 c2 c3 c4 c5
 have hne : w.heap.size + 1 ≠ w.heap.size + 2 := by omega
 have HLe : Hid (w.heap.size ≤ w.heap.size + 1 + 1) := Lib.hid (by omega)
 have hne2 : w.heap.size ≠ w.heap.size + 2 := by omega
 generalize hnb : isNum x.wd = nb at *
 have HNb := Lib.hid hnb; clear hnb
 generalize hmm : isMm x.wd = mm at *
 have HMb := Lib.hid hmm; clear hmm
 by_cases hw : x.wd = 33
 ·have HW := Lib.hid hw
  rw [hw] at c1 HN HMm
  clear hw
  by_cases hi : x.im = 0
  ·have HI := Lib.hid hi
   rw [hi, show ((0 : Nat) : Int) = 0 from rfl] at c4
   clear hi
   go_wp2_with (first | (go_at_call 34; refine (HMk.out _).mono ?_; rintro e w' ⟨rfl, rfl⟩) | (go_at_call 100; refine (HN.out _).mono ?_; rintro e w' ⟨rfl, rfl⟩) | (go_at_call 112; refine (HC.out _).mono ?_; rintro e w' ⟨rfl, rfl⟩))
   go_region
   go_wp2_with fail
   exact bodyPost_ret (v := .tuple #[.agg #[.int .i64 2, .int .i64 0], .bool true]) (by simp [results, Tryz.results103, go_sem, r0, r1] <;> omega) rfl (HS.out _ _ _ _ (by unfold argsI; rw [HCl.out]; simp) (by unfold tosI; rw [HCl.out]; simp) (by unfold okI formI; rw [HCl.out]; simp [HW.out, HI.out]) (below_drew1 ((HH.out.low.setCell HLe.out _).setCell HLe.out _)))
  ·have HI := Lib.hid hi
   have hb : ((x.im : Int) == 0) = false := by simp; omega
   clear hi
   go_wp2_with (first | (go_at_call 34; refine (HMk.out _).mono ?_; rintro e w' ⟨rfl, rfl⟩) | (go_at_call 100; refine (HN.out _).mono ?_; rintro e w' ⟨rfl, rfl⟩) | (go_at_call 112; refine (HC.out _).mono ?_; rintro e w' ⟨rfl, rfl⟩))
   go_region
   go_wp2_with fail
   exact bodyPost_ret (v := .tuple #[.agg #[.int .i64 2, .int .i64 0], .bool false]) (by simp [results, Tryz.results103, go_sem, r0, r1] <;> omega) rfl (HS.out _ _ _ _ (by unfold argsI; rw [HCl.out]; simp) (by unfold tosI; rw [HCl.out]; simp) (by unfold okI formI; rw [HCl.out]; simp [HW.out, HI.out]) (below_drew1 ((HH.out.low.setCell HLe.out _).setCell HLe.out _)))
 ·have HW := Lib.hid hw
  have hwb : (x.wd == 33) = false := by simpa using hw
  clear hw
  go_wp2_with (first | (go_at_call 34; refine (HMk.out _).mono ?_; rintro e w' ⟨rfl, rfl⟩) | (go_at_call 100; refine (HN.out _).mono ?_; rintro e w' ⟨rfl, rfl⟩) | (go_at_call 112; refine (HC.out _).mono ?_; rintro e w' ⟨rfl, rfl⟩))
  go_region
  go_wp2_with fail
  exact bodyPost_ret (v := .tuple #[.agg #[.int .i64 2, .int .i64 0], .bool false]) (by simp [results, Tryz.results103, go_sem, r0, r1] <;> omega) rfl (HS.out _ _ _ _ (by unfold argsI; rw [HCl.out]; simp) (by unfold tosI; rw [HCl.out]; simp) (by unfold okI formI; rw [HCl.out]; simp [HW.out]) (below_drew1 ((HH.out.low.setCell HLe.out _).setCell HLe.out _)))
set_option maxRecDepth 100000 in
set_option maxHeartbeats 4000000 in
theorem shape12 (F : Fun) (A : FunA) (x : Ins) (aa ta : Option Addr) (ca ct : Nat) (w : World) (ha : IntsIn w aa x.ar) (ht : IntsIn w ta x.tt) (hc : clsI x.op = 12) :
  Calls Tryz.prog 103 #[funV F A, insV x aa ta ca ct] w (ShapePost F x w) := by
 have HN := Lib.hid (isNumber_any x.wd)
 have HMm := Lib.hid (isMemory_any x.wd)
 have HMk := Lib.hid (Mask_any x.wd)
 have HC := Lib.hid (classOf_any x.op)
 have HS : Hid (∀ (o : Bool) (a t : Int) W', a = argsI F.ret x → t = tosI x → o = okI F.sl.length x → Below w.heap.size w W' → ShapePost F x w (.returned (.tuple #[.agg #[.int .i64 a, .int .i64 t], .bool o])) W') := Lib.hid (fun o a t W' h1 h2 h3 h4 => by subst h1 h2 h3; exact ⟨rfl, h4⟩)
 have HCl := Lib.hid hc
 have HT0 := Lib.hid ht
 have HH := Lib.hid (sh_head (F := F) (A := A) (ca := ca) (ct := ct) ha ht)
 rw [hc] at HC
 clear hc ha ht
 simp only [funV, funC, insV]
 go_enter Tryz.func103, Tryz.ntmps103
 go_upto_region 1 with (fail)
 generalize (((w.alloc (.cells #[.slice A.pa F.ps.length A.pc, .int .i64 F.ret, .slice A.sa F.sl.length A.sc, .slice A.ba F.bs.length A.bc] 31)).alloc (.cells #[.int .i64 x.op, .int .i64 x.wd, .int .i64 x.fl, .slice aa x.ar.length ca, .int .u32 x.im, .slice ta x.tt.length ct] 63)).alloc (.cells #[.int .i64 0, .int .i64 0] 151)) = W at *
 obtain ⟨c0, c1, c2, c3, c4, c5, _, hit⟩ := HH.out.x
 have r0 := HH.out.r0; have r1 := HH.out.r1; have z0 := HH.out.z0; have z1 := HH.out.z1; have f2 := HH.out.f2; have f0 := HH.out.f0
 have HIt := Lib.hid hit
 clear hit
 simp only [Nat.zero_add] at c1 c2 c3 c4 c5
 have hne : w.heap.size + 1 ≠ w.heap.size + 2 := by omega
 have HLe : Hid (w.heap.size ≤ w.heap.size + 1 + 1) := Lib.hid (by omega)
 have hne2 : w.heap.size ≠ w.heap.size + 2 := by omega
 generalize hnb : isNum x.wd = nb at *
 have HNb := Lib.hid hnb; clear hnb
 generalize hmm : isMm x.wd = mm at *
 have HMb := Lib.hid hmm; clear hmm
 cases mm
 ·skip
  go_wp2_with (first | (go_at_call 34; refine (HMk.out _).mono ?_; rintro e w' ⟨rfl, rfl⟩) | (go_at_call 100; refine (HN.out _).mono ?_; rintro e w' ⟨rfl, rfl⟩) | (go_at_call 112; refine (HC.out _).mono ?_; rintro e w' ⟨rfl, rfl⟩))
  refine wp_region_held_drew (S := fun w' => w'.cell? ⟨w.heap.size + 1, 1, none⟩ = some (.int .i64 x.wd)) (by kernel_rfl) (keep c1 (below_drew1 (Below.refl _ _))) (fun hHeld => ?_)
  refine wpAnyH_take (i := 0) (v := ?v0m) (by simp only [List.getElem?_toArray, List.getElem?_cons_zero]; rfl) (by kernel_rfl) (by kernel_rfl) (by kernel_rfl) (by exact fun _ _ _ h => h) (Or.inl ⟨by rfl, ?hy0m⟩) (by assumption) ?_
  case hy0m => intro w hSw; (try dsimp only at hSw); go_simp; try with_reducible rfl
  try simp only [Act.put, List.setIfInBounds_toArray, List.set_cons_zero, List.set_cons_succ]
  refine wpAnyH_take (i := 1) (v := ?v1m) (by simp only [List.getElem?_toArray, List.getElem?_cons_zero, List.getElem?_cons_succ]; rfl) (by kernel_rfl) (by kernel_rfl) (by kernel_rfl) (by exact fun _ _ _ h => h) (Or.inl ⟨by rfl, ?hy1m⟩) (by assumption) ?_
  case hy1m => intro w hSw; (try dsimp only at hSw); go_simp; try with_reducible rfl
  try simp only [Act.put, List.setIfInBounds_toArray, List.set_cons_zero, List.set_cons_succ]
  refine wpAnyH_take (i := 2) (v := ?v2m) (by simp only [List.getElem?_toArray, List.getElem?_cons_zero, List.getElem?_cons_succ]; rfl) (by kernel_rfl) (by kernel_rfl) (by kernel_rfl) (by exact fun _ _ _ h => h) (Or.inl ⟨by rfl, ?hy2m⟩) (by assumption) ?_
  case hy2m => intro w hSw; (try dsimp only at hSw); go_simp; try with_reducible rfl
  try simp only [Act.put, List.setIfInBounds_toArray, List.set_cons_zero, List.set_cons_succ]
  refine wpAnyH_ready (rs := [3]) (by kernel_rfl) (by simp) ?_
  refine AllReadyH.cons (by simp only [List.getElem?_toArray, List.getElem?_cons_zero, List.getElem?_cons_succ]; rfl) (fun K hK => ?_) AllReadyH.nil
  go_simp
  refine (HMm.out _).mono ?_; rintro e w' ⟨rfl, rfl⟩
  (try dsimp only)
  refine hK.out _ _ (keep c1 (below_drew1 (Below.refl _ _))) (fun hHeld2 => ?_)
  clear hK K
  try simp only [Act.put, List.setIfInBounds_toArray, List.set_cons_zero, List.set_cons_succ]
  refine wpAnyH_take (i := 4) (v := ?v4m) (by simp only [List.getElem?_toArray, List.getElem?_cons_zero, List.getElem?_cons_succ]; rfl) (by kernel_rfl) (by kernel_rfl) (by kernel_rfl) (by exact fun _ _ _ h => h) (Or.inl ⟨by rfl, ?hy4m⟩) (by assumption) ?_
  case hy4m => intro w hSw; (try dsimp only at hSw); go_simp; try with_reducible rfl
  try simp only [Act.put, List.setIfInBounds_toArray, List.set_cons_zero, List.set_cons_succ]
  refine wpAnyH_take (i := 5) (v := undef) (by simp only [List.getElem?_toArray, List.getElem?_cons_zero, List.getElem?_cons_succ]; rfl) (by kernel_rfl) (by kernel_rfl) (by kernel_rfl) (by exact fun _ _ _ h => h) (Or.inr ⟨by rfl, rfl⟩) (by assumption) ?_
  try simp only [Act.put, List.setIfInBounds_toArray, List.set_cons_zero, List.set_cons_succ]
  refine wpAnyH_take (i := 6) (v := undef) (by simp only [List.getElem?_toArray, List.getElem?_cons_zero, List.getElem?_cons_succ]; rfl) (by kernel_rfl) (by kernel_rfl) (by kernel_rfl) (by exact fun _ _ _ h => h) (Or.inr ⟨by rfl, rfl⟩) (by assumption) ?_
  try simp only [Act.put, List.setIfInBounds_toArray, List.set_cons_zero, List.set_cons_succ]
  refine wpAnyH_take (i := 7) (v := undef) (by simp only [List.getElem?_toArray, List.getElem?_cons_zero, List.getElem?_cons_succ]; rfl) (by kernel_rfl) (by kernel_rfl) (by kernel_rfl) (by exact fun _ _ _ h => h) (Or.inr ⟨by rfl, rfl⟩) (by assumption) ?_
  try simp only [Act.put, List.setIfInBounds_toArray, List.set_cons_zero, List.set_cons_succ]
  refine wpAnyH_take (i := 8) (v := ?v8m) (by simp only [List.getElem?_toArray, List.getElem?_cons_zero, List.getElem?_cons_succ]; rfl) (by kernel_rfl) (by kernel_rfl) (by kernel_rfl) (by exact fun _ _ _ h => h) (Or.inl ⟨by rfl, ?hy8m⟩) (by assumption) ?_
  case hy8m => intro w hSw; (try dsimp only at hSw); go_simp; try with_reducible rfl
  try simp only [Act.put, List.setIfInBounds_toArray, List.set_cons_zero, List.set_cons_succ]
  refine wpAnyH_ready (rs := [9]) (by kernel_rfl) (by simp) ?_
  refine AllReadyH.cons (by simp only [List.getElem?_toArray, List.getElem?_cons_zero, List.getElem?_cons_succ]; rfl) (fun K hK => ?_) AllReadyH.nil
  go_simp
  refine hK.out _ _ (keep (cell_far (cell_far c1 hne) hne) (below_drew1 (Below.refl _ _))) (fun hHeld3 => ?_)
  clear hK K
  try simp only [Act.put, List.setIfInBounds_toArray, List.set_cons_zero, List.set_cons_succ]
  refine wpAnyH_take (i := 10) (v := ?v10m) (by simp only [List.getElem?_toArray, List.getElem?_cons_zero, List.getElem?_cons_succ]; rfl) (by kernel_rfl) (by kernel_rfl) (by kernel_rfl) (by exact fun _ _ _ h => h) (Or.inl ⟨by rfl, ?hy10m⟩) (by assumption) ?_
  case hy10m => intro w hSw; (try dsimp only at hSw); go_simp; try with_reducible rfl
  try simp only [Act.put, List.setIfInBounds_toArray, List.set_cons_zero, List.set_cons_succ]
  refine wpAnyH_done (by kernel_rfl) ?_ _
  all_goals go_wp2_with fail
  all_goals exact bodyPost_ret (v := .tuple #[.agg #[.int .i64 1, .int .i64 0], .bool false]) (by simp [results, Tryz.results103, go_sem, r0, r1] <;> omega) rfl (HS.out _ _ _ _ (by unfold argsI; rw [HCl.out]; simp) (by unfold tosI; rw [HCl.out]; simp) (by unfold okI formI; rw [HCl.out]; simp [HMb.out]) (below_drew1 ((HH.out.low.setCell HLe.out _).setCell HLe.out _)))
 ·skip
  by_cases hi : x.im = 0
  ·have HI := Lib.hid hi
   rw [hi, show ((0 : Nat) : Int) = 0 from rfl] at c4
   clear hi
   go_wp2_with (first | (go_at_call 34; refine (HMk.out _).mono ?_; rintro e w' ⟨rfl, rfl⟩) | (go_at_call 100; refine (HN.out _).mono ?_; rintro e w' ⟨rfl, rfl⟩) | (go_at_call 112; refine (HC.out _).mono ?_; rintro e w' ⟨rfl, rfl⟩))
   go_region_with (go_at_call 113; refine (HMm.out _).mono ?_; rintro e w' ⟨rfl, rfl⟩)
   all_goals go_wp2_with fail
   all_goals exact bodyPost_ret (v := .tuple #[.agg #[.int .i64 1, .int .i64 0], .bool true]) (by simp [results, Tryz.results103, go_sem, r0, r1] <;> omega) rfl (HS.out _ _ _ _ (by unfold argsI; rw [HCl.out]; simp) (by unfold tosI; rw [HCl.out]; simp) (by unfold okI formI; rw [HCl.out]; simp [HMb.out, HI.out]) (below_drew1 ((HH.out.low.setCell HLe.out _).setCell HLe.out _)))
  ·have HI := Lib.hid hi
   have hb : ((x.im : Int) == 0) = false := by simp; omega
   clear hi
   go_wp2_with (first | (go_at_call 34; refine (HMk.out _).mono ?_; rintro e w' ⟨rfl, rfl⟩) | (go_at_call 100; refine (HN.out _).mono ?_; rintro e w' ⟨rfl, rfl⟩) | (go_at_call 112; refine (HC.out _).mono ?_; rintro e w' ⟨rfl, rfl⟩))
   go_region_with (go_at_call 113; refine (HMm.out _).mono ?_; rintro e w' ⟨rfl, rfl⟩)
   all_goals go_wp2_with fail
   all_goals exact bodyPost_ret (v := .tuple #[.agg #[.int .i64 1, .int .i64 0], .bool false]) (by simp [results, Tryz.results103, go_sem, r0, r1] <;> omega) rfl (HS.out _ _ _ _ (by unfold argsI; rw [HCl.out]; simp) (by unfold tosI; rw [HCl.out]; simp) (by unfold okI formI; rw [HCl.out]; simp [HMb.out, HI.out]) (below_drew1 ((HH.out.low.setCell HLe.out _).setCell HLe.out _)))
set_option maxRecDepth 100000 in
set_option maxHeartbeats 4000000 in
theorem shape13 (F : Fun) (A : FunA) (x : Ins) (aa ta : Option Addr) (ca ct : Nat) (w : World) (ha : IntsIn w aa x.ar) (ht : IntsIn w ta x.tt) (hc : clsI x.op = 13) :
  Calls Tryz.prog 103 #[funV F A, insV x aa ta ca ct] w (ShapePost F x w) := by
 have HN := Lib.hid (isNumber_any x.wd)
 have HMm := Lib.hid (isMemory_any x.wd)
 have HMk := Lib.hid (Mask_any x.wd)
 have HC := Lib.hid (classOf_any x.op)
 have HS : Hid (∀ (o : Bool) (a t : Int) W', a = argsI F.ret x → t = tosI x → o = okI F.sl.length x → Below w.heap.size w W' → ShapePost F x w (.returned (.tuple #[.agg #[.int .i64 a, .int .i64 t], .bool o])) W') := Lib.hid (fun o a t W' h1 h2 h3 h4 => by subst h1 h2 h3; exact ⟨rfl, h4⟩)
 have HCl := Lib.hid hc
 have HT0 := Lib.hid ht
 have HH := Lib.hid (sh_head (F := F) (A := A) (ca := ca) (ct := ct) ha ht)
 rw [hc] at HC
 clear hc ha ht
 simp only [funV, funC, insV]
 go_enter Tryz.func103, Tryz.ntmps103
 go_upto_region 1 with (fail)
 generalize (((w.alloc (.cells #[.slice A.pa F.ps.length A.pc, .int .i64 F.ret, .slice A.sa F.sl.length A.sc, .slice A.ba F.bs.length A.bc] 31)).alloc (.cells #[.int .i64 x.op, .int .i64 x.wd, .int .i64 x.fl, .slice aa x.ar.length ca, .int .u32 x.im, .slice ta x.tt.length ct] 63)).alloc (.cells #[.int .i64 0, .int .i64 0] 151)) = W at *
 obtain ⟨c0, c1, c2, c3, c4, c5, _, hit⟩ := HH.out.x
 have r0 := HH.out.r0; have r1 := HH.out.r1; have z0 := HH.out.z0; have z1 := HH.out.z1; have f2 := HH.out.f2; have f0 := HH.out.f0
 have HIt := Lib.hid hit
 clear hit
 simp only [Nat.zero_add] at c1 c2 c3 c4 c5
 have hne : w.heap.size + 1 ≠ w.heap.size + 2 := by omega
 have HLe : Hid (w.heap.size ≤ w.heap.size + 1 + 1) := Lib.hid (by omega)
 have hne2 : w.heap.size ≠ w.heap.size + 2 := by omega
 generalize hnb : isNum x.wd = nb at *
 have HNb := Lib.hid hnb; clear hnb
 generalize hmm : isMm x.wd = mm at *
 have HMb := Lib.hid hmm; clear hmm
 by_cases hw : x.wd = 0
 ·have HW := Lib.hid hw
  rw [hw] at c1 HN HMm
  clear hw
  by_cases hi : x.im = 0
  ·have HI := Lib.hid hi
   rw [hi, show ((0 : Nat) : Int) = 0 from rfl] at c4
   clear hi
   go_wp2_with (first | (go_at_call 34; refine (HMk.out _).mono ?_; rintro e w' ⟨rfl, rfl⟩) | (go_at_call 100; refine (HN.out _).mono ?_; rintro e w' ⟨rfl, rfl⟩) | (go_at_call 112; refine (HC.out _).mono ?_; rintro e w' ⟨rfl, rfl⟩))
   go_region
   go_wp2_with fail
   exact bodyPost_ret (v := .tuple #[.agg #[.int .i64 2, .int .i64 0], .bool true]) (by simp [results, Tryz.results103, go_sem, r0, r1] <;> omega) rfl (HS.out _ _ _ _ (by unfold argsI; rw [HCl.out]; simp) (by unfold tosI; rw [HCl.out]; simp) (by unfold okI formI; rw [HCl.out]; simp [HW.out, HI.out]) (below_drew1 ((HH.out.low.setCell HLe.out _).setCell HLe.out _)))
  ·have HI := Lib.hid hi
   have hb : ((x.im : Int) == 0) = false := by simp; omega
   clear hi
   go_wp2_with (first | (go_at_call 34; refine (HMk.out _).mono ?_; rintro e w' ⟨rfl, rfl⟩) | (go_at_call 100; refine (HN.out _).mono ?_; rintro e w' ⟨rfl, rfl⟩) | (go_at_call 112; refine (HC.out _).mono ?_; rintro e w' ⟨rfl, rfl⟩))
   go_region
   go_wp2_with fail
   exact bodyPost_ret (v := .tuple #[.agg #[.int .i64 2, .int .i64 0], .bool false]) (by simp [results, Tryz.results103, go_sem, r0, r1] <;> omega) rfl (HS.out _ _ _ _ (by unfold argsI; rw [HCl.out]; simp) (by unfold tosI; rw [HCl.out]; simp) (by unfold okI formI; rw [HCl.out]; simp [HW.out, HI.out]) (below_drew1 ((HH.out.low.setCell HLe.out _).setCell HLe.out _)))
 ·have HW := Lib.hid hw
  have hwb : (x.wd == 0) = false := by simpa using hw
  clear hw
  go_wp2_with (first | (go_at_call 34; refine (HMk.out _).mono ?_; rintro e w' ⟨rfl, rfl⟩) | (go_at_call 100; refine (HN.out _).mono ?_; rintro e w' ⟨rfl, rfl⟩) | (go_at_call 112; refine (HC.out _).mono ?_; rintro e w' ⟨rfl, rfl⟩))
  go_region
  go_wp2_with fail
  exact bodyPost_ret (v := .tuple #[.agg #[.int .i64 2, .int .i64 0], .bool false]) (by simp [results, Tryz.results103, go_sem, r0, r1] <;> omega) rfl (HS.out _ _ _ _ (by unfold argsI; rw [HCl.out]; simp) (by unfold tosI; rw [HCl.out]; simp) (by unfold okI formI; rw [HCl.out]; simp [HW.out]) (below_drew1 ((HH.out.low.setCell HLe.out _).setCell HLe.out _)))
end Go.Proofs.YtbbbflnnbbaamaaGreatDoor.PK
