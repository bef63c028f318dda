/- Packed of several texts. -/
import Derived.Test.YtbbbflnnbbaamaaGreatDoorH11
import Derived.Test.YtbbbflnnbbaamaaGreatDoorH19
import Derived.BigRegion
import Derived.Deep.Cut
import Derived.Outline
import Derived.Deep.RegionWith
import Derived.Deep.RegionHeld3
import Derived.IntWalk
namespace Go.Proofs.YtbbbflnnbbaamaaGreatDoor.PK
open Go.RowKit

def okI (nsl : Nat) (x : Ins) : Bool := formI nsl x && !(decide (clsI x.op = 16) && (decide (x.tt.length = 2) && decide (x.tt.getD 0 0 = x.tt.getD 1 0)))
def ShapePost (F : Fun) (x : Ins) (w : World) (e : Ending) (w' : World) : Prop := e = .returned (.tuple #[.agg #[.int .i64 (argsI F.ret x), .int .i64 (tosI x)], .bool (okI F.sl.length x)]) ∧ Below w.heap.size w w'
structure ShHead (F : Fun) (A : FunA) (x : Ins) (aa ta : Option Addr) (ca ct : Nat) (w W : World) : Prop where
 low : Below w.heap.size w W
 f0 : W.cell? ⟨w.heap.size, 1, none⟩ = some (.int .i64 F.ret)
 f2 : W.cell? ⟨w.heap.size, 2, none⟩ = some (.slice A.sa F.sl.length A.sc)
 x : InsAt W (w.heap.size + 1) 0 x aa ta ca ct
 r0 : W.cell? ⟨w.heap.size + 2, 0, none⟩ = some (.int .i64 0)
 r1 : W.cell? ⟨w.heap.size + 2, 1, none⟩ = some (.int .i64 0)
 z0 : W.frozen? ⟨w.heap.size + 2, 0, none⟩ = false
 z1 : W.frozen? ⟨w.heap.size + 2, 1, none⟩ = false
theorem cell_far {w : World} {b k q j : Nat} {v x : Value} (h : w.cell? ⟨b, k, none⟩ = some v) (hn : b ≠ q) : (w.setCell ⟨q, j, none⟩ x).cell? ⟨b, k, none⟩ = some v := by
 rw [World.cell?_of_block (w := w) (Below.heap_setCell _ _ _ _ (show b ≠ q from hn))]; exact h
theorem sh_head {F : Fun} {A : FunA} {x : Ins} {aa ta : Option Addr} {ca ct : Nat} {w : World} (ha : IntsIn w aa x.ar) (ht : IntsIn w ta x.tt) :
  ShHead F A x aa ta ca ct w (((w.alloc (.cells #[.slice A.pa F.ps.length A.pc, .int .i64 F.ret, .slice A.sa F.sl.length A.sc, .slice A.ba F.bs.length A.bc] 31)).alloc (.cells #[.int .i64 x.op, .int .i64 x.wd, .int .i64 x.fl, .slice aa x.ar.length ca, .int .u32 x.im, .slice ta x.tt.length ct] 63)).alloc (.cells #[.int .i64 0, .int .i64 0] 151)) := by
 have h1 := (Below.refl w.heap.size w).alloc (Nat.le_refl _) (.cells #[.slice A.pa F.ps.length A.pc, .int .i64 F.ret, .slice A.sa F.sl.length A.sc, .slice A.ba F.bs.length A.bc] 31)
 have hx := insAt_new (w.alloc (.cells #[.slice A.pa F.ps.length A.pc, .int .i64 F.ret, .slice A.sa F.sl.length A.sc, .slice A.ba F.bs.length A.bc] 31)) x aa ta ca ct 63 (ha.below h1) (ht.below h1)
 have h2 := (Below.refl (w.alloc (.cells #[.slice A.pa F.ps.length A.pc, .int .i64 F.ret, .slice A.sa F.sl.length A.sc, .slice A.ba F.bs.length A.bc] 31)).heap.size (w.alloc (.cells #[.slice A.pa F.ps.length A.pc, .int .i64 F.ret, .slice A.sa F.sl.length A.sc, .slice A.ba F.bs.length A.bc] 31))).alloc (Nat.le_refl _) (.cells #[.int .i64 x.op, .int .i64 x.wd, .int .i64 x.fl, .slice aa x.ar.length ca, .int .u32 x.im, .slice ta x.tt.length ct] 63)
 have hz : (w.alloc (.cells #[.slice A.pa F.ps.length A.pc, .int .i64 F.ret, .slice A.sa F.sl.length A.sc, .slice A.ba F.bs.length A.bc] 31)).heap.size = w.heap.size + 1 := by simp
 have hz2 : ((w.alloc (.cells #[.slice A.pa F.ps.length A.pc, .int .i64 F.ret, .slice A.sa F.sl.length A.sc, .slice A.ba F.bs.length A.bc] 31)).alloc (.cells #[.int .i64 x.op, .int .i64 x.wd, .int .i64 x.fl, .slice aa x.ar.length ca, .int .u32 x.im, .slice ta x.tt.length ct] 63)).heap.size = w.heap.size + 2 := by simp
 have f0 : (w.alloc (.cells #[.slice A.pa F.ps.length A.pc, .int .i64 F.ret, .slice A.sa F.sl.length A.sc, .slice A.ba F.bs.length A.bc] 31)).cell? ⟨w.heap.size, 1, none⟩ = some (.int .i64 F.ret) := by simp [go_sem]
 have f2 : (w.alloc (.cells #[.slice A.pa F.ps.length A.pc, .int .i64 F.ret, .slice A.sa F.sl.length A.sc, .slice A.ba F.bs.length A.bc] 31)).cell? ⟨w.heap.size, 2, none⟩ = some (.slice A.sa F.sl.length A.sc) := by simp [go_sem]
 generalize w.alloc (.cells #[.slice A.pa F.ps.length A.pc, .int .i64 F.ret, .slice A.sa F.sl.length A.sc, .slice A.ba F.bs.length A.bc] 31) = w1 at *
 have g0 := keep f0 h2; have g2 := keep f2 h2
 rw [hz] at hx
 generalize w1.alloc (.cells #[.int .i64 x.op, .int .i64 x.wd, .int .i64 x.fl, .slice aa x.ar.length ca, .int .u32 x.im, .slice ta x.tt.length ct] 63) = w2 at *
 have h3 := (Below.refl w2.heap.size w2).alloc (Nat.le_refl _) (.cells #[.int .i64 0, .int .i64 0] 151)
 refine ⟨(h1.trans (h2.mono (by omega))).trans (h3.mono (by omega)), keep g0 h3, keep g2 h3, hx.below h3, ?_, ?_, ?_, ?_⟩
 ·rw [World.cell?_alloc_at _ _ _ _ hz2.symm]; rfl
 ·rw [World.cell?_alloc_at _ _ _ _ hz2.symm]; rfl
 ·rw [← hz2]; simp [go_sem]
 ·rw [← hz2]; simp [go_sem]
end Go.Proofs.YtbbbflnnbbaamaaGreatDoor.PK
namespace Go.Proofs.YtbbbflnnbbaamaaGreatDoor.PK
open Go.RowKit

set_option maxRecDepth 100000 in
set_option maxHeartbeats 4000000 in
theorem shape0 (F : Fun) (A : FunA) (x : Ins) (aa ta : Option Addr) (ca ct : Nat) (w : World) (ha : IntsIn w aa x.ar) (ht : IntsIn w ta x.tt) (hc : clsI x.op = 0) :
  Calls Tryz.prog 103 #[funV F A, insV x aa ta ca ct] w (ShapePost F x w) := by
 have HN := Lib.hid (isNumber_any x.wd)
 have HMm := Lib.hid (isMemory_any x.wd)
 have HMk := Lib.hid (Mask_any x.wd)
 have HC := Lib.hid (classOf_any x.op)
 have HS : Hid (∀ (o : Bool) (a t : Int) W', a = argsI F.ret x → t = tosI x → o = okI F.sl.length x → Below w.heap.size w W' → ShapePost F x w (.returned (.tuple #[.agg #[.int .i64 a, .int .i64 t], .bool o])) W') := Lib.hid (fun o a t W' h1 h2 h3 h4 => by subst h1 h2 h3; exact ⟨rfl, h4⟩)
 have HCl := Lib.hid hc
 have HT0 := Lib.hid ht
 have HH := Lib.hid (sh_head (F := F) (A := A) (ca := ca) (ct := ct) ha ht)
 rw [hc] at HC
 clear hc ha ht
 simp only [funV, funC, insV]
 go_enter Tryz.func103, Tryz.ntmps103
 go_upto_region 1 with (fail)
 generalize (((w.alloc (.cells #[.slice A.pa F.ps.length A.pc, .int .i64 F.ret, .slice A.sa F.sl.length A.sc, .slice A.ba F.bs.length A.bc] 31)).alloc (.cells #[.int .i64 x.op, .int .i64 x.wd, .int .i64 x.fl, .slice aa x.ar.length ca, .int .u32 x.im, .slice ta x.tt.length ct] 63)).alloc (.cells #[.int .i64 0, .int .i64 0] 151)) = W at *
 obtain ⟨c0, c1, c2, c3, c4, c5, _, hit⟩ := HH.out.x
 have r0 := HH.out.r0; have r1 := HH.out.r1; have z0 := HH.out.z0; have z1 := HH.out.z1; have f2 := HH.out.f2; have f0 := HH.out.f0
 have HIt := Lib.hid hit
 clear hit
 simp only [Nat.zero_add] at c1 c2 c3 c4 c5
 have hne : w.heap.size + 1 ≠ w.heap.size + 2 := by omega
 have HLe : Hid (w.heap.size ≤ w.heap.size + 1 + 1) := Lib.hid (by omega)
 have hne2 : w.heap.size ≠ w.heap.size + 2 := by omega
 generalize hnb : isNum x.wd = nb at *
 have HNb := Lib.hid hnb; clear hnb
 generalize hmm : isMm x.wd = mm at *
 have HMb := Lib.hid hmm; clear hmm
 go_wp2_with (first | (go_at_call 34; refine (HMk.out _).mono ?_; rintro e w' ⟨rfl, rfl⟩) | (go_at_call 100; refine (HN.out _).mono ?_; rintro e w' ⟨rfl, rfl⟩) | (go_at_call 112; refine (HC.out _).mono ?_; rintro e w' ⟨rfl, rfl⟩))
 exact bodyPost_ret (v := .tuple #[.agg #[.int .i64 0, .int .i64 0], .bool false]) (by simp [results, Tryz.results103, go_sem, r0, r1] <;> omega) rfl (HS.out _ _ _ _ (by unfold argsI; rw [HCl.out]; simp) (by unfold tosI; rw [HCl.out]; simp) (by unfold okI formI; rw [HCl.out]; simp []) ((HH.out.low.setCell HLe.out _).setCell HLe.out _))
set_option maxRecDepth 100000 in
set_option maxHeartbeats 4000000 in
theorem shape1 (F : Fun) (A : FunA) (x : Ins) (aa ta : Option Addr) (ca ct : Nat) (w : World) (ha : IntsIn w aa x.ar) (ht : IntsIn w ta x.tt) (hc : clsI x.op = 1) :
  Calls Tryz.prog 103 #[funV F A, insV x aa ta ca ct] w (ShapePost F x w) := by
 have HN := Lib.hid (isNumber_any x.wd)
 have HMm := Lib.hid (isMemory_any x.wd)
 have HMk := Lib.hid (Mask_any x.wd)
 have HC := Lib.hid (classOf_any x.op)
 have HS : Hid (∀ (o : Bool) (a t : Int) W', a = argsI F.ret x → t = tosI x → o = okI F.sl.length x → Below w.heap.size w W' → ShapePost F x w (.returned (.tuple #[.agg #[.int .i64 a, .int .i64 t], .bool o])) W') := Lib.hid (fun o a t W' h1 h2 h3 h4 => by subst h1 h2 h3; exact ⟨rfl, h4⟩)
 have HCl := Lib.hid hc
 have HT0 := Lib.hid ht
 have HH := Lib.hid (sh_head (F := F) (A := A) (ca := ca) (ct := ct) ha ht)
 rw [hc] at HC
 clear hc ha ht
 simp only [funV, funC, insV]
 go_enter Tryz.func103, Tryz.ntmps103
 go_upto_region 1 with (fail)
 generalize (((w.alloc (.cells #[.slice A.pa F.ps.length A.pc, .int .i64 F.ret, .slice A.sa F.sl.length A.sc, .slice A.ba F.bs.length A.bc] 31)).alloc (.cells #[.int .i64 x.op, .int .i64 x.wd, .int .i64 x.fl, .slice aa x.ar.length ca, .int .u32 x.im, .slice ta x.tt.length ct] 63)).alloc (.cells #[.int .i64 0, .int .i64 0] 151)) = W at *
 obtain ⟨c0, c1, c2, c3, c4, c5, _, hit⟩ := HH.out.x
 have r0 := HH.out.r0; have r1 := HH.out.r1; have z0 := HH.out.z0; have z1 := HH.out.z1; have f2 := HH.out.f2; have f0 := HH.out.f0
 have HIt := Lib.hid hit
 clear hit
 simp only [Nat.zero_add] at c1 c2 c3 c4 c5
 have hne : w.heap.size + 1 ≠ w.heap.size + 2 := by omega
 have HLe : Hid (w.heap.size ≤ w.heap.size + 1 + 1) := Lib.hid (by omega)
 have hne2 : w.heap.size ≠ w.heap.size + 2 := by omega
 generalize hnb : isNum x.wd = nb at *
 have HNb := Lib.hid hnb; clear hnb
 generalize hmm : isMm x.wd = mm at *
 have HMb := Lib.hid hmm; clear hmm
 cases nb
 ·simp only [Bool.false_eq_true, if_false] at HMk
  go_wp2_with (first | (go_at_call 34; refine (HMk.out _).mono ?_; rintro e w' ⟨rfl, rfl⟩) | (go_at_call 100; refine (HN.out _).mono ?_; rintro e w' ⟨rfl, rfl⟩) | (go_at_call 112; refine (HC.out _).mono ?_; rintro e w' ⟨rfl, rfl⟩))
  go_region
  go_wp2_with fail
  exact bodyPost_ret (v := .tuple #[.agg #[.int .i64 0, .int .i64 0], .bool false]) (by simp [results, Tryz.results103, go_sem, r0, r1] <;> omega) rfl (HS.out _ _ _ _ (by unfold argsI; rw [HCl.out]; simp) (by unfold tosI; rw [HCl.out]; simp) (by unfold okI formI; rw [HCl.out]; simp [HNb.out]) (below_drew1 ((HH.out.low.setCell HLe.out _).setCell HLe.out _)))
 ·simp only [if_true] at HMk
  have HLe2 := Lib.hid (le_mxI (x := x.im) (n := x.wd))
  generalize mxI x.wd = m at *
  by_cases hi : x.im < 2 ^ x.wd.toNat
  ·have HI := Lib.hid hi
   have hb : (x.im : Int) ≤ m := HLe2.out.2 hi
   clear hi
   go_wp2_with (first | (go_at_call 34; refine (HMk.out _).mono ?_; rintro e w' ⟨rfl, rfl⟩) | (go_at_call 100; refine (HN.out _).mono ?_; rintro e w' ⟨rfl, rfl⟩) | (go_at_call 112; refine (HC.out _).mono ?_; rintro e w' ⟨rfl, rfl⟩))
   go_region
   go_wp2_with fail
   exact bodyPost_ret (v := .tuple #[.agg #[.int .i64 0, .int .i64 0], .bool true]) (by simp [results, Tryz.results103, go_sem, r0, r1] <;> omega) rfl (HS.out _ _ _ _ (by unfold argsI; rw [HCl.out]; simp) (by unfold tosI; rw [HCl.out]; simp) (by unfold okI formI; rw [HCl.out]; simp [HNb.out, HI.out]) (below_drew1 ((HH.out.low.setCell HLe.out _).setCell HLe.out _)))
  ·have HI := Lib.hid hi
   have hb : ¬ (x.im : Int) ≤ m := fun h => hi (HLe2.out.1 h)
   clear hi
   go_wp2_with (first | (go_at_call 34; refine (HMk.out _).mono ?_; rintro e w' ⟨rfl, rfl⟩) | (go_at_call 100; refine (HN.out _).mono ?_; rintro e w' ⟨rfl, rfl⟩) | (go_at_call 112; refine (HC.out _).mono ?_; rintro e w' ⟨rfl, rfl⟩))
   go_region
   go_wp2_with fail
   exact bodyPost_ret (v := .tuple #[.agg #[.int .i64 0, .int .i64 0], .bool false]) (by simp [results, Tryz.results103, go_sem, r0, r1] <;> omega) rfl (HS.out _ _ _ _ (by unfold argsI; rw [HCl.out]; simp) (by unfold tosI; rw [HCl.out]; simp) (by unfold okI formI; rw [HCl.out]; simp [HNb.out, HI.out]) (below_drew1 ((HH.out.low.setCell HLe.out _).setCell HLe.out _)))
set_option maxRecDepth 100000 in
set_option maxHeartbeats 4000000 in
theorem shape2 (F : Fun) (A : FunA) (x : Ins) (aa ta : Option Addr) (ca ct : Nat) (w : World) (ha : IntsIn w aa x.ar) (ht : IntsIn w ta x.tt) (hc : clsI x.op = 2) :
  Calls Tryz.prog 103 #[funV F A, insV x aa ta ca ct] w (ShapePost F x w) := by
 have HN := Lib.hid (isNumber_any x.wd)
 have HMm := Lib.hid (isMemory_any x.wd)
 have HMk := Lib.hid (Mask_any x.wd)
 have HC := Lib.hid (classOf_any x.op)
 have HS : Hid (∀ (o : Bool) (a t : Int) W', a = argsI F.ret x → t = tosI x → o = okI F.sl.length x → Below w.heap.size w W' → ShapePost F x w (.returned (.tuple #[.agg #[.int .i64 a, .int .i64 t], .bool o])) W') := Lib.hid (fun o a t W' h1 h2 h3 h4 => by subst h1 h2 h3; exact ⟨rfl, h4⟩)
 have HCl := Lib.hid hc
 have HT0 := Lib.hid ht
 have HH := Lib.hid (sh_head (F := F) (A := A) (ca := ca) (ct := ct) ha ht)
 rw [hc] at HC
 clear hc ha ht
 simp only [funV, funC, insV]
 go_enter Tryz.func103, Tryz.ntmps103
 go_upto_region 1 with (fail)
 generalize (((w.alloc (.cells #[.slice A.pa F.ps.length A.pc, .int .i64 F.ret, .slice A.sa F.sl.length A.sc, .slice A.ba F.bs.length A.bc] 31)).alloc (.cells #[.int .i64 x.op, .int .i64 x.wd, .int .i64 x.fl, .slice aa x.ar.length ca, .int .u32 x.im, .slice ta x.tt.length ct] 63)).alloc (.cells #[.int .i64 0, .int .i64 0] 151)) = W at *
 obtain ⟨c0, c1, c2, c3, c4, c5, _, hit⟩ := HH.out.x
 have r0 := HH.out.r0; have r1 := HH.out.r1; have z0 := HH.out.z0; have z1 := HH.out.z1; have f2 := HH.out.f2; have f0 := HH.out.f0
 have HIt := Lib.hid hit
 clear hit
 simp only [Nat.zero_add] at c1 c2 c3 c4 c5
 have hne : w.heap.size + 1 ≠ w.heap.size + 2 := by omega
 have HLe : Hid (w.heap.size ≤ w.heap.size + 1 + 1) := Lib.hid (by omega)
 have hne2 : w.heap.size ≠ w.heap.size + 2 := by omega
 generalize hnb : isNum x.wd = nb at *
 have HNb := Lib.hid hnb; clear hnb
 generalize hmm : isMm x.wd = mm at *
 have HMb := Lib.hid hmm; clear hmm
 cases nb
 ·skip
  go_wp2_with (first | (go_at_call 34; refine (HMk.out _).mono ?_; rintro e w' ⟨rfl, rfl⟩) | (go_at_call 100; refine (HN.out _).mono ?_; rintro e w' ⟨rfl, rfl⟩) | (go_at_call 112; refine (HC.out _).mono ?_; rintro e w' ⟨rfl, rfl⟩))
  go_region
  go_wp2_with fail
  exact bodyPost_ret (v := .tuple #[.agg #[.int .i64 2, .int .i64 0], .bool false]) (by simp [results, Tryz.results103, go_sem, r0, r1] <;> omega) rfl (HS.out _ _ _ _ (by unfold argsI; rw [HCl.out]; simp) (by unfold tosI; rw [HCl.out]; simp) (by unfold okI formI; rw [HCl.out]; simp [HNb.out]) (below_drew1 ((HH.out.low.setCell HLe.out _).setCell HLe.out _)))
 ·skip
  by_cases hi : x.im = 0
  ·have HI := Lib.hid hi
   rw [hi, show ((0 : Nat) : Int) = 0 from rfl] at c4
   clear hi
   go_wp2_with (first | (go_at_call 34; refine (HMk.out _).mono ?_; rintro e w' ⟨rfl, rfl⟩) | (go_at_call 100; refine (HN.out _).mono ?_; rintro e w' ⟨rfl, rfl⟩) | (go_at_call 112; refine (HC.out _).mono ?_; rintro e w' ⟨rfl, rfl⟩))
   go_region
   go_wp2_with fail
   exact bodyPost_ret (v := .tuple #[.agg #[.int .i64 2, .int .i64 0], .bool true]) (by simp [results, Tryz.results103, go_sem, r0, r1] <;> omega) rfl (HS.out _ _ _ _ (by unfold argsI; rw [HCl.out]; simp) (by unfold tosI; rw [HCl.out]; simp) (by unfold okI formI; rw [HCl.out]; simp [HNb.out, HI.out]) (below_drew1 ((HH.out.low.setCell HLe.out _).setCell HLe.out _)))
  ·have HI := Lib.hid hi
   have hb : ((x.im : Int) == 0) = false := by simp; omega
   clear hi
   go_wp2_with (first | (go_at_call 34; refine (HMk.out _).mono ?_; rintro e w' ⟨rfl, rfl⟩) | (go_at_call 100; refine (HN.out _).mono ?_; rintro e w' ⟨rfl, rfl⟩) | (go_at_call 112; refine (HC.out _).mono ?_; rintro e w' ⟨rfl, rfl⟩))
   go_region
   go_wp2_with fail
   exact bodyPost_ret (v := .tuple #[.agg #[.int .i64 2, .int .i64 0], .bool false]) (by simp [results, Tryz.results103, go_sem, r0, r1] <;> omega) rfl (HS.out _ _ _ _ (by unfold argsI; rw [HCl.out]; simp) (by unfold tosI; rw [HCl.out]; simp) (by unfold okI formI; rw [HCl.out]; simp [HNb.out, HI.out]) (below_drew1 ((HH.out.low.setCell HLe.out _).setCell HLe.out _)))
set_option maxRecDepth 100000 in
set_option maxHeartbeats 4000000 in
theorem shape3 (F : Fun) (A : FunA) (x : Ins) (aa ta : Option Addr) (ca ct : Nat) (w : World) (ha : IntsIn w aa x.ar) (ht : IntsIn w ta x.tt) (hc : clsI x.op = 3) :
  Calls Tryz.prog 103 #[funV F A, insV x aa ta ca ct] w (ShapePost F x w) := by
 have HN := Lib.hid (isNumber_any x.wd)
 have HMm := Lib.hid (isMemory_any x.wd)
 have HMk := Lib.hid (Mask_any x.wd)
 have HC := Lib.hid (classOf_any x.op)
 have HS : Hid (∀ (o : Bool) (a t : Int) W', a = argsI F.ret x → t = tosI x → o = okI F.sl.length x → Below w.heap.size w W' → ShapePost F x w (.returned (.tuple #[.agg #[.int .i64 a, .int .i64 t], .bool o])) W') := Lib.hid (fun o a t W' h1 h2 h3 h4 => by subst h1 h2 h3; exact ⟨rfl, h4⟩)
 have HCl := Lib.hid hc
 have HT0 := Lib.hid ht
 have HH := Lib.hid (sh_head (F := F) (A := A) (ca := ca) (ct := ct) ha ht)
 rw [hc] at HC
 clear hc ha ht
 simp only [funV, funC, insV]
 go_enter Tryz.func103, Tryz.ntmps103
 go_upto_region 1 with (fail)
 generalize (((w.alloc (.cells #[.slice A.pa F.ps.length A.pc, .int .i64 F.ret, .slice A.sa F.sl.length A.sc, .slice A.ba F.bs.length A.bc] 31)).alloc (.cells #[.int .i64 x.op, .int .i64 x.wd, .int .i64 x.fl, .slice aa x.ar.length ca, .int .u32 x.im, .slice ta x.tt.length ct] 63)).alloc (.cells #[.int .i64 0, .int .i64 0] 151)) = W at *
 obtain ⟨c0, c1, c2, c3, c4, c5, _, hit⟩ := HH.out.x
 have r0 := HH.out.r0; have r1 := HH.out.r1; have z0 := HH.out.z0; have z1 := HH.out.z1; have f2 := HH.out.f2; have f0 := HH.out.f0
 have HIt := Lib.hid hit
 clear hit
 simp only [Nat.zero_add] at c1 c2 c3 c4 c5
 have hne : w.heap.size + 1 ≠ w.heap.size + 2 := by omega
 have HLe : Hid (w.heap.size ≤ w.heap.size + 1 + 1) := Lib.hid (by omega)
 have hne2 : w.heap.size ≠ w.heap.size + 2 := by omega
 generalize hnb : isNum x.wd = nb at *
 have HNb := Lib.hid hnb; clear hnb
 generalize hmm : isMm x.wd = mm at *
 have HMb := Lib.hid hmm; clear hmm
 by_cases hw : x.wd = 1
 ·have HW := Lib.hid hw
  rw [hw] at c1 HN HMm
  clear hw
  by_cases hi : x.im ≤ 9
  ·have HI := Lib.hid hi
   have hb : (x.im : Int) ≤ 9 := by omega
   clear hi
   go_wp2_with (first | (go_at_call 34; refine (HMk.out _).mono ?_; rintro e w' ⟨rfl, rfl⟩) | (go_at_call 100; refine (HN.out _).mono ?_; rintro e w' ⟨rfl, rfl⟩) | (go_at_call 112; refine (HC.out _).mono ?_; rintro e w' ⟨rfl, rfl⟩))
   go_region
   go_wp2_with fail
   exact bodyPost_ret (v := .tuple #[.agg #[.int .i64 2, .int .i64 0], .bool true]) (by simp [results, Tryz.results103, go_sem, r0, r1] <;> omega) rfl (HS.out _ _ _ _ (by unfold argsI; rw [HCl.out]; simp) (by unfold tosI; rw [HCl.out]; simp) (by unfold okI formI; rw [HCl.out]; simp [HW.out, HI.out]) (below_drew1 ((HH.out.low.setCell HLe.out _).setCell HLe.out _)))
  ·have HI := Lib.hid hi
   have hb : ¬ (x.im : Int) ≤ 9 := by omega
   clear hi
   go_wp2_with (first | (go_at_call 34; refine (HMk.out _).mono ?_; rintro e w' ⟨rfl, rfl⟩) | (go_at_call 100; refine (HN.out _).mono ?_; rintro e w' ⟨rfl, rfl⟩) | (go_at_call 112; refine (HC.out _).mono ?_; rintro e w' ⟨rfl, rfl⟩))
   go_region
   go_wp2_with fail
   exact bodyPost_ret (v := .tuple #[.agg #[.int .i64 2, .int .i64 0], .bool false]) (by simp [results, Tryz.results103, go_sem, r0, r1] <;> omega) rfl (HS.out _ _ _ _ (by unfold argsI; rw [HCl.out]; simp) (by unfold tosI; rw [HCl.out]; simp) (by unfold okI formI; rw [HCl.out]; simp [HW.out, HI.out]) (below_drew1 ((HH.out.low.setCell HLe.out _).setCell HLe.out _)))
 ·have HW := Lib.hid hw
  have hwb : (x.wd == 1) = false := by simpa using hw
  clear hw
  go_wp2_with (first | (go_at_call 34; refine (HMk.out _).mono ?_; rintro e w' ⟨rfl, rfl⟩) | (go_at_call 100; refine (HN.out _).mono ?_; rintro e w' ⟨rfl, rfl⟩) | (go_at_call 112; refine (HC.out _).mono ?_; rintro e w' ⟨rfl, rfl⟩))
  go_region
  go_wp2_with fail
  exact bodyPost_ret (v := .tuple #[.agg #[.int .i64 2, .int .i64 0], .bool false]) (by simp [results, Tryz.results103, go_sem, r0, r1] <;> omega) rfl (HS.out _ _ _ _ (by unfold argsI; rw [HCl.out]; simp) (by unfold tosI; rw [HCl.out]; simp) (by unfold okI formI; rw [HCl.out]; simp [HW.out]) (below_drew1 ((HH.out.low.setCell HLe.out _).setCell HLe.out _)))
set_option maxRecDepth 100000 in
set_option maxHeartbeats 4000000 in
theorem shape4 (F : Fun) (A : FunA) (x : Ins) (aa ta : Option Addr) (ca ct : Nat) (w : World) (ha : IntsIn w aa x.ar) (ht : IntsIn w ta x.tt) (hc : clsI x.op = 4) :
  Calls Tryz.prog 103 #[funV F A, insV x aa ta ca ct] w (ShapePost F x w) := by
 have HN := Lib.hid (isNumber_any x.wd)
 have HMm := Lib.hid (isMemory_any x.wd)
 have HMk := Lib.hid (Mask_any x.wd)
 have HC := Lib.hid (classOf_any x.op)
 have HS : Hid (∀ (o : Bool) (a t : Int) W', a = argsI F.ret x → t = tosI x → o = okI F.sl.length x → Below w.heap.size w W' → ShapePost F x w (.returned (.tuple #[.agg #[.int .i64 a, .int .i64 t], .bool o])) W') := Lib.hid (fun o a t W' h1 h2 h3 h4 => by subst h1 h2 h3; exact ⟨rfl, h4⟩)
 have HCl := Lib.hid hc
 have HT0 := Lib.hid ht
 have HH := Lib.hid (sh_head (F := F) (A := A) (ca := ca) (ct := ct) ha ht)
 rw [hc] at HC
 clear hc ha ht
 simp only [funV, funC, insV]
 go_enter Tryz.func103, Tryz.ntmps103
 go_upto_region 1 with (fail)
 generalize (((w.alloc (.cells #[.slice A.pa F.ps.length A.pc, .int .i64 F.ret, .slice A.sa F.sl.length A.sc, .slice A.ba F.bs.length A.bc] 31)).alloc (.cells #[.int .i64 x.op, .int .i64 x.wd, .int .i64 x.fl, .slice aa x.ar.length ca, .int .u32 x.im, .slice ta x.tt.length ct] 63)).alloc (.cells #[.int .i64 0, .int .i64 0] 151)) = W at *
 obtain ⟨c0, c1, c2, c3, c4, c5, _, hit⟩ := HH.out.x
 have r0 := HH.out.r0; have r1 := HH.out.r1; have z0 := HH.out.z0; have z1 := HH.out.z1; have f2 := HH.out.f2; have f0 := HH.out.f0
 have HIt := Lib.hid hit
 clear hit
 simp only [Nat.zero_add] at c1 c2 c3 c4 c5
 have hne : w.heap.size + 1 ≠ w.heap.size + 2 := by omega
 have HLe : Hid (w.heap.size ≤ w.heap.size + 1 + 1) := Lib.hid (by omega)
 have hne2 : w.heap.size ≠ w.heap.size + 2 := by omega
 generalize hnb : isNum x.wd = nb at *
 have HNb := Lib.hid hnb; clear hnb
 generalize hmm : isMm x.wd = mm at *
 have HMb := Lib.hid hmm; clear hmm
 cases nb
 ·skip
  by_cases hw : x.wd = 33
  ·have HW := Lib.hid hw
   rw [hw] at c1 HN HMm
   clear hw
   by_cases hi : x.im = 0
   ·have HI := Lib.hid hi
    rw [hi, show ((0 : Nat) : Int) = 0 from rfl] at c4
    clear hi
    go_wp2_with (first | (go_at_call 34; refine (HMk.out _).mono ?_; rintro e w' ⟨rfl, rfl⟩) | (go_at_call 100; refine (HN.out _).mono ?_; rintro e w' ⟨rfl, rfl⟩) | (go_at_call 112; refine (HC.out _).mono ?_; rintro e w' ⟨rfl, rfl⟩))
    go_region
    go_wp2_with fail
    exact bodyPost_ret (v := .tuple #[.agg #[.int .i64 3, .int .i64 0], .bool true]) (by simp [results, Tryz.results103, go_sem, r0, r1] <;> omega) rfl (HS.out _ _ _ _ (by unfold argsI; rw [HCl.out]; simp) (by unfold tosI; rw [HCl.out]; simp) (by unfold okI formI; rw [HCl.out]; simp [HW.out, HI.out]) (below_drew1 ((HH.out.low.setCell HLe.out _).setCell HLe.out _)))
   ·have HI := Lib.hid hi
    have hb : ((x.im : Int) == 0) = false := by simp; omega
    clear hi
    go_wp2_with (first | (go_at_call 34; refine (HMk.out _).mono ?_; rintro e w' ⟨rfl, rfl⟩) | (go_at_call 100; refine (HN.out _).mono ?_; rintro e w' ⟨rfl, rfl⟩) | (go_at_call 112; refine (HC.out _).mono ?_; rintro e w' ⟨rfl, rfl⟩))
    go_region
    go_wp2_with fail
    exact bodyPost_ret (v := .tuple #[.agg #[.int .i64 3, .int .i64 0], .bool false]) (by simp [results, Tryz.results103, go_sem, r0, r1] <;> omega) rfl (HS.out _ _ _ _ (by unfold argsI; rw [HCl.out]; simp) (by unfold tosI; rw [HCl.out]; simp) (by unfold okI formI; rw [HCl.out]; simp [HW.out, HI.out]) (below_drew1 ((HH.out.low.setCell HLe.out _).setCell HLe.out _)))
  ·have HW := Lib.hid hw
   have hwb : (x.wd == 33) = false := by simpa using hw
   clear hw
   go_wp2_with (first | (go_at_call 34; refine (HMk.out _).mono ?_; rintro e w' ⟨rfl, rfl⟩) | (go_at_call 100; refine (HN.out _).mono ?_; rintro e w' ⟨rfl, rfl⟩) | (go_at_call 112; refine (HC.out _).mono ?_; rintro e w' ⟨rfl, rfl⟩))
   go_region
   go_wp2_with fail
   exact bodyPost_ret (v := .tuple #[.agg #[.int .i64 3, .int .i64 0], .bool false]) (by simp [results, Tryz.results103, go_sem, r0, r1] <;> omega) rfl (HS.out _ _ _ _ (by unfold argsI; rw [HCl.out]; simp) (by unfold tosI; rw [HCl.out]; simp) (by unfold okI formI; rw [HCl.out]; simp [HNb.out, HW.out]) (below_drew1 ((HH.out.low.setCell HLe.out _).setCell HLe.out _)))
 ·skip
  by_cases hi : x.im = 0
  ·have HI := Lib.hid hi
   rw [hi, show ((0 : Nat) : Int) = 0 from rfl] at c4
   clear hi
   go_wp2_with (first | (go_at_call 34; refine (HMk.out _).mono ?_; rintro e w' ⟨rfl, rfl⟩) | (go_at_call 100; refine (HN.out _).mono ?_; rintro e w' ⟨rfl, rfl⟩) | (go_at_call 112; refine (HC.out _).mono ?_; rintro e w' ⟨rfl, rfl⟩))
   go_region
   go_wp2_with fail
   exact bodyPost_ret (v := .tuple #[.agg #[.int .i64 3, .int .i64 0], .bool true]) (by simp [results, Tryz.results103, go_sem, r0, r1] <;> omega) rfl (HS.out _ _ _ _ (by unfold argsI; rw [HCl.out]; simp) (by unfold tosI; rw [HCl.out]; simp) (by unfold okI formI; rw [HCl.out]; simp [HNb.out, HI.out]) (below_drew1 ((HH.out.low.setCell HLe.out _).setCell HLe.out _)))
  ·have HI := Lib.hid hi
   have hb : ((x.im : Int) == 0) = false := by simp; omega
   clear hi
   go_wp2_with (first | (go_at_call 34; refine (HMk.out _).mono ?_; rintro e w' ⟨rfl, rfl⟩) | (go_at_call 100; refine (HN.out _).mono ?_; rintro e w' ⟨rfl, rfl⟩) | (go_at_call 112; refine (HC.out _).mono ?_; rintro e w' ⟨rfl, rfl⟩))
   go_region
   go_wp2_with fail
   exact bodyPost_ret (v := .tuple #[.agg #[.int .i64 3, .int .i64 0], .bool false]) (by simp [results, Tryz.results103, go_sem, r0, r1] <;> omega) rfl (HS.out _ _ _ _ (by unfold argsI; rw [HCl.out]; simp) (by unfold tosI; rw [HCl.out]; simp) (by unfold okI formI; rw [HCl.out]; simp [HNb.out, HI.out]) (below_drew1 ((HH.out.low.setCell HLe.out _).setCell HLe.out _)))
set_option maxRecDepth 100000 in
set_option maxHeartbeats 4000000 in
theorem shape5 (F : Fun) (A : FunA) (x : Ins) (aa ta : Option Addr) (ca ct : Nat) (w : World) (ha : IntsIn w aa x.ar) (ht : IntsIn w ta x.tt) (hc : clsI x.op = 5) :
  Calls Tryz.prog 103 #[funV F A, insV x aa ta ca ct] w (ShapePost F x w) := by
 have HN := Lib.hid (isNumber_any x.wd)
 have HMm := Lib.hid (isMemory_any x.wd)
 have HMk := Lib.hid (Mask_any x.wd)
 have HC := Lib.hid (classOf_any x.op)
 have HS : Hid (∀ (o : Bool) (a t : Int) W', a = argsI F.ret x → t = tosI x → o = okI F.sl.length x → Below w.heap.size w W' → ShapePost F x w (.returned (.tuple #[.agg #[.int .i64 a, .int .i64 t], .bool o])) W') := Lib.hid (fun o a t W' h1 h2 h3 h4 => by subst h1 h2 h3; exact ⟨rfl, h4⟩)
 have HCl := Lib.hid hc
 have HT0 := Lib.hid ht
 have HH := Lib.hid (sh_head (F := F) (A := A) (ca := ca) (ct := ct) ha ht)
 rw [hc] at HC
 clear hc ha ht
 simp only [funV, funC, insV]
 go_enter Tryz.func103, Tryz.ntmps103
 go_upto_region 1 with (fail)
 generalize (((w.alloc (.cells #[.slice A.pa F.ps.length A.pc, .int .i64 F.ret, .slice A.sa F.sl.length A.sc, .slice A.ba F.bs.length A.bc] 31)).alloc (.cells #[.int .i64 x.op, .int .i64 x.wd, .int .i64 x.fl, .slice aa x.ar.length ca, .int .u32 x.im, .slice ta x.tt.length ct] 63)).alloc (.cells #[.int .i64 0, .int .i64 0] 151)) = W at *
 obtain ⟨c0, c1, c2, c3, c4, c5, _, hit⟩ := HH.out.x
 have r0 := HH.out.r0; have r1 := HH.out.r1; have z0 := HH.out.z0; have z1 := HH.out.z1; have f2 := HH.out.f2; have f0 := HH.out.f0
 have HIt := Lib.hid hit
 clear hit
 simp only [Nat.zero_add] at c1 c2 c3 c4 c5
 have hne : w.heap.size + 1 ≠ w.heap.size + 2 := by omega
 have HLe : Hid (w.heap.size ≤ w.heap.size + 1 + 1) := Lib.hid (by omega)
 have hne2 : w.heap.size ≠ w.heap.size + 2 := by omega
 generalize hnb : isNum x.wd = nb at *
 have HNb := Lib.hid hnb; clear hnb
 generalize hmm : isMm x.wd = mm at *
 have HMb := Lib.hid hmm; clear hmm
 cases nb
 ·skip
  go_wp2_with (first | (go_at_call 34; refine (HMk.out _).mono ?_; rintro e w' ⟨rfl, rfl⟩) | (go_at_call 100; refine (HN.out _).mono ?_; rintro e w' ⟨rfl, rfl⟩) | (go_at_call 112; refine (HC.out _).mono ?_; rintro e w' ⟨rfl, rfl⟩))
  go_region
  go_wp2_with fail
  exact bodyPost_ret (v := .tuple #[.agg #[.int .i64 1, .int .i64 0], .bool false]) (by simp [results, Tryz.results103, go_sem, r0, r1] <;> omega) rfl (HS.out _ _ _ _ (by unfold argsI; rw [HCl.out]; simp) (by unfold tosI; rw [HCl.out]; simp) (by unfold okI formI; rw [HCl.out]; simp [HNb.out]) (below_drew1 ((HH.out.low.setCell HLe.out _).setCell HLe.out _)))
 ·skip
  by_cases hi : x.im = 0
  ·have HI := Lib.hid hi
   rw [hi, show ((0 : Nat) : Int) = 0 from rfl] at c4
   clear hi
   go_wp2_with (first | (go_at_call 34; refine (HMk.out _).mono ?_; rintro e w' ⟨rfl, rfl⟩) | (go_at_call 100; refine (HN.out _).mono ?_; rintro e w' ⟨rfl, rfl⟩) | (go_at_call 112; refine (HC.out _).mono ?_; rintro e w' ⟨rfl, rfl⟩))
   go_region
   go_wp2_with fail
   exact bodyPost_ret (v := .tuple #[.agg #[.int .i64 1, .int .i64 0], .bool true]) (by simp [results, Tryz.results103, go_sem, r0, r1] <;> omega) rfl (HS.out _ _ _ _ (by unfold argsI; rw [HCl.out]; simp) (by unfold tosI; rw [HCl.out]; simp) (by unfold okI formI; rw [HCl.out]; simp [HNb.out, HI.out]) (below_drew1 ((HH.out.low.setCell HLe.out _).setCell HLe.out _)))
  ·have HI := Lib.hid hi
   have hb : ((x.im : Int) == 0) = false := by simp; omega
   clear hi
   go_wp2_with (first | (go_at_call 34; refine (HMk.out _).mono ?_; rintro e w' ⟨rfl, rfl⟩) | (go_at_call 100; refine (HN.out _).mono ?_; rintro e w' ⟨rfl, rfl⟩) | (go_at_call 112; refine (HC.out _).mono ?_; rintro e w' ⟨rfl, rfl⟩))
   go_region
   go_wp2_with fail
   exact bodyPost_ret (v := .tuple #[.agg #[.int .i64 1, .int .i64 0], .bool false]) (by simp [results, Tryz.results103, go_sem, r0, r1] <;> omega) rfl (HS.out _ _ _ _ (by unfold argsI; rw [HCl.out]; simp) (by unfold tosI; rw [HCl.out]; simp) (by unfold okI formI; rw [HCl.out]; simp [HNb.out, HI.out]) (below_drew1 ((HH.out.low.setCell HLe.out _).setCell HLe.out _)))
set_option maxRecDepth 100000 in
set_option maxHeartbeats 4000000 in
theorem shape6 (F : Fun) (A : FunA) (x : Ins) (aa ta : Option Addr) (ca ct : Nat) (w : World) (ha : IntsIn w aa x.ar) (ht : IntsIn w ta x.tt) (hc : clsI x.op = 6) :
  Calls Tryz.prog 103 #[funV F A, insV x aa ta ca ct] w (ShapePost F x w) := by
 have HN := Lib.hid (isNumber_any x.wd)
 have HMm := Lib.hid (isMemory_any x.wd)
 have HMk := Lib.hid (Mask_any x.wd)
 have HC := Lib.hid (classOf_any x.op)
 have HS : Hid (∀ (o : Bool) (a t : Int) W', a = argsI F.ret x → t = tosI x → o = okI F.sl.length x → Below w.heap.size w W' → ShapePost F x w (.returned (.tuple #[.agg #[.int .i64 a, .int .i64 t], .bool o])) W') := Lib.hid (fun o a t W' h1 h2 h3 h4 => by subst h1 h2 h3; exact ⟨rfl, h4⟩)
 have HCl := Lib.hid hc
 have HT0 := Lib.hid ht
 have HH := Lib.hid (sh_head (F := F) (A := A) (ca := ca) (ct := ct) ha ht)
 rw [hc] at HC
 clear hc ha ht
 simp only [funV, funC, insV]
 go_enter Tryz.func103, Tryz.ntmps103
 go_upto_region 1 with (fail)
 generalize (((w.alloc (.cells #[.slice A.pa F.ps.length A.pc, .int .i64 F.ret, .slice A.sa F.sl.length A.sc, .slice A.ba F.bs.length A.bc] 31)).alloc (.cells #[.int .i64 x.op, .int .i64 x.wd, .int .i64 x.fl, .slice aa x.ar.length ca, .int .u32 x.im, .slice ta x.tt.length ct] 63)).alloc (.cells #[.int .i64 0, .int .i64 0] 151)) = W at *
 obtain ⟨c0, c1, c2, c3, c4, c5, _, hit⟩ := HH.out.x
 have r0 := HH.out.r0; have r1 := HH.out.r1; have z0 := HH.out.z0; have z1 := HH.out.z1; have f2 := HH.out.f2; have f0 := HH.out.f0
 have HIt := Lib.hid hit
 clear hit
 simp only [Nat.zero_add] at c1 c2 c3 c4 c5
 have hne : w.heap.size + 1 ≠ w.heap.size + 2 := by omega
 have HLe : Hid (w.heap.size ≤ w.heap.size + 1 + 1) := Lib.hid (by omega)
 have hne2 : w.heap.size ≠ w.heap.size + 2 := by omega
 generalize hnb : isNum x.wd = nb at *
 have HNb := Lib.hid hnb; clear hnb
 generalize hmm : isMm x.wd = mm at *
 have HMb := Lib.hid hmm; clear hmm
 cases nb
 ·skip
  go_wp2_with (first | (go_at_call 34; refine (HMk.out _).mono ?_; rintro e w' ⟨rfl, rfl⟩) | (go_at_call 100; refine (HN.out _).mono ?_; rintro e w' ⟨rfl, rfl⟩) | (go_at_call 112; refine (HC.out _).mono ?_; rintro e w' ⟨rfl, rfl⟩))
  go_region
  go_wp2_with fail
  exact bodyPost_ret (v := .tuple #[.agg #[.int .i64 1, .int .i64 0], .bool false]) (by simp [results, Tryz.results103, go_sem, r0, r1] <;> omega) rfl (HS.out _ _ _ _ (by unfold argsI; rw [HCl.out]; simp) (by unfold tosI; rw [HCl.out]; simp) (by unfold okI formI; rw [HCl.out]; simp [HNb.out]) (below_drew1 ((HH.out.low.setCell HLe.out _).setCell HLe.out _)))
 ·skip
  by_cases hi : x.im = 0
  ·have HI := Lib.hid hi
   rw [hi, show ((0 : Nat) : Int) = 0 from rfl] at c4
   clear hi
   go_wp2_with (first | (go_at_call 34; refine (HMk.out _).mono ?_; rintro e w' ⟨rfl, rfl⟩) | (go_at_call 100; refine (HN.out _).mono ?_; rintro e w' ⟨rfl, rfl⟩) | (go_at_call 112; refine (HC.out _).mono ?_; rintro e w' ⟨rfl, rfl⟩))
   go_region
   go_wp2_with fail
   exact bodyPost_ret (v := .tuple #[.agg #[.int .i64 1, .int .i64 0], .bool true]) (by simp [results, Tryz.results103, go_sem, r0, r1] <;> omega) rfl (HS.out _ _ _ _ (by unfold argsI; rw [HCl.out]; simp) (by unfold tosI; rw [HCl.out]; simp) (by unfold okI formI; rw [HCl.out]; simp [HNb.out, HI.out]) (below_drew1 ((HH.out.low.setCell HLe.out _).setCell HLe.out _)))
  ·have HI := Lib.hid hi
   have hb : ((x.im : Int) == 0) = false := by simp; omega
   clear hi
   go_wp2_with (first | (go_at_call 34; refine (HMk.out _).mono ?_; rintro e w' ⟨rfl, rfl⟩) | (go_at_call 100; refine (HN.out _).mono ?_; rintro e w' ⟨rfl, rfl⟩) | (go_at_call 112; refine (HC.out _).mono ?_; rintro e w' ⟨rfl, rfl⟩))
   go_region
   go_wp2_with fail
   exact bodyPost_ret (v := .tuple #[.agg #[.int .i64 1, .int .i64 0], .bool false]) (by simp [results, Tryz.results103, go_sem, r0, r1] <;> omega) rfl (HS.out _ _ _ _ (by unfold argsI; rw [HCl.out]; simp) (by unfold tosI; rw [HCl.out]; simp) (by unfold okI formI; rw [HCl.out]; simp [HNb.out, HI.out]) (below_drew1 ((HH.out.low.setCell HLe.out _).setCell HLe.out _)))
end Go.Proofs.YtbbbflnnbbaamaaGreatDoor.PK
