/- Packed of several texts. -/
import Derived.Test.YtbbbflnnbbaamaaGreatDoorH41
namespace Go.Proofs.YtbbbflnnbbaamaaGreatDoor.PK
open Go.RowKit

theorem row_below {w w' : World} {p : Nat} {o : Obj} (h : w.heap[p]? = some o) (hb : Below w.heap.size w w') : w'.heap[p]? = some o := (hb.block p (by rcases Nat.lt_or_ge p w.heap.size with h1 | h1; exact h1; rw [Array.getElem?_eq_none h1] at h; cases h)).trans h

set_option maxRecDepth 100000 in
theorem wResult_const (q : Nat) (x : Ins) (aa ta : Option Addr) (ca ct : Nat) (la ka : Option Addr) (ln lc kn kc : Nat) (w : World) (ho : x.op = 0) :
  Calls Tryz.prog 89 #[.pointer (some ⟨q, 0, none⟩), insV x aa ta ca ct, .slice la ln lc, .slice ka kn kc] w fun e w' => e = .returned (.tuple #[valV x.im, .bool true]) ∧ Below w.heap.size w w' := by
 obtain ⟨op, wd, fl, ar, im, tt⟩ := x
 simp only at ho ⊢
 subst ho
 have hal : Below w.heap.size w ((w.alloc (.cells #[.int .i64 0, .int .i64 wd, .int .i64 fl, .slice aa ar.length ca, .int .u32 im, .slice ta tt.length ct] 63)).alloc (.cells #[.bool false, .int .i64 0, .int .u32 0] 47)) := ((Below.refl _ _).alloc (Nat.le_refl _) _).alloc (by simp) _
 have HB := Lib.hid hal
 simp only [insV, valV]
 go_enter Tryz.func89, Tryz.ntmps89
 go_upto_region 3 with fail
 have x4 : ((w.alloc (.cells #[.int .i64 0, .int .i64 wd, .int .i64 fl, .slice aa ar.length ca, .int .u32 im, .slice ta tt.length ct] 63)).alloc (.cells #[.bool false, .int .i64 0, .int .u32 0] 47)).cell? ⟨w.heap.size, 4, none⟩ = some (.int .u32 (im : Nat)) := by simp [go_sem]
 have hr2 : ((w.alloc (.cells #[.int .i64 0, .int .i64 wd, .int .i64 fl, .slice aa ar.length ca, .int .u32 im, .slice ta tt.length ct] 63)).alloc (.cells #[.bool false, .int .i64 0, .int .u32 0] 47)).heap[w.heap.size + 1]? = some (.cells #[.bool false, .int .i64 0, .int .u32 0] 47 (0, 0)) := by
  have := heap_alloc_new (w.alloc (.cells #[.int .i64 0, .int .i64 wd, .int .i64 fl, .slice aa ar.length ca, .int .u32 im, .slice ta tt.length ct] 63)) (.cells #[.bool false, .int .i64 0, .int .u32 0] 47)
  simpa using this
 have HR2 := Lib.hid hr2
 clear hr2 hal
 generalize ((w.alloc _).alloc _) = w2 at *
 generalize hp1 : w.heap.size + 1 = p1 at *
 have HLe : Hid (w.heap.size ≤ p1) := Lib.hid (by omega)
 clear hp1
 have c0 := cell_of_row _ _ 0 _ _ _ HR2.out; have c1 := cell_of_row _ _ 1 _ _ _ HR2.out; have c2 := cell_of_row _ _ 2 _ _ _ HR2.out
 have fz := fun j => frozen_of_row w2 p1 j _ _ HR2.out
 go_wp2_with fail
 refine bodyPost_ret (leave_vb Tryz.results89 _ w2 p1 rfl (im : Nat) HR2.out) rfl ?_
 exact ⟨rfl, HB.out.trans ((three_save w2 p1 (im : Nat)).below HLe.out HB.out.size)⟩
set_option maxRecDepth 100000 in
set_option maxHeartbeats 2000000 in
theorem wResult_two (q : Nat) (x : Ins) (aa ta : Option Addr) (ca ct : Nat) (a b r : Int) (la ka : Option Addr) (lc kn kc : Nat) (w : World) (ho : x.op = 1 ∨ x.op = 14) (hv : ValsIn w la [a, b])
  (hS : ∀ u, Below w.heap.size w u → Calls Tryz.prog 131 #[.pointer (some ⟨q, 0, none⟩), insV x aa ta ca ct, .slice la 2 lc, .slice ka kn kc] u fun e w' => e = .returned (valV r) ∧ Below u.heap.size u w') :
  Calls Tryz.prog 89 #[.pointer (some ⟨q, 0, none⟩), insV x aa ta ca ct, .slice la 2 lc, .slice ka kn kc] w fun e w' => e = .returned (.tuple #[valV r, .bool true]) ∧ Below w.heap.size w w' := by
 have HBr := Lib.hid (fun u => wBroken_no x aa ta ca ct a b u (by rcases ho with h | h <;> rw [h] <;> omega))
 have hal : Below w.heap.size w ((w.alloc (.cells #[.int .i64 x.op, .int .i64 x.wd, .int .i64 x.fl, .slice aa x.ar.length ca, .int .u32 x.im, .slice ta x.tt.length ct] 63)).alloc (.cells #[.bool false, .int .i64 0, .int .u32 0] 47)) := ((Below.refl _ _).alloc (Nat.le_refl _) _).alloc (by simp) _
 have HB := Lib.hid hal
 have HV := Lib.hid hv
 obtain ⟨vb, vo, rfl, _⟩ := hv 0 (by simp)
 have HVk : Hid (∀ u, Below w.heap.size w u → ∀ k, k < 2 → u.cell? ⟨vb, vo + k * 3, none⟩ = some (.bool false) ∧ u.cell? ⟨vb, vo + k * 3 + 1, none⟩ = some (.int .i64 0) ∧ u.cell? ⟨vb, vo + k * 3 + 2, none⟩ = some (.int .u32 ([a, b].getD k 0))) := Lib.hid fun u hu k hk => by
  obtain ⟨b', o', e, h1, h2, h3⟩ := (HV.out.below hu) k (by simpa using hk)
  simp only [Option.some.injEq, Addr.mk.injEq, and_true] at e
  obtain ⟨rfl, rfl⟩ := e
  exact ⟨h1, h2, h3⟩
 have HS := Lib.hid hS
 clear hv hS HV
 simp only [insV, valV] at HBr HS ⊢
 have x0 : ((w.alloc (.cells #[.int .i64 x.op, .int .i64 x.wd, .int .i64 x.fl, .slice aa x.ar.length ca, .int .u32 x.im, .slice ta x.tt.length ct] 63)).alloc (.cells #[.bool false, .int .i64 0, .int .u32 0] 47)).heap[w.heap.size]? = some (.cells #[.int .i64 x.op, .int .i64 x.wd, .int .i64 x.fl, .slice aa x.ar.length ca, .int .u32 x.im, .slice ta x.tt.length ct] 63 (0, 0)) := by
  rw [Below.heap_alloc _ _ _ (by simp)]
  exact heap_alloc_new _ _
 have hr2 : ((w.alloc (.cells #[.int .i64 x.op, .int .i64 x.wd, .int .i64 x.fl, .slice aa x.ar.length ca, .int .u32 x.im, .slice ta x.tt.length ct] 63)).alloc (.cells #[.bool false, .int .i64 0, .int .u32 0] 47)).heap[w.heap.size + 1]? = some (.cells #[.bool false, .int .i64 0, .int .u32 0] 47 (0, 0)) := by
  have := heap_alloc_new (w.alloc (.cells #[.int .i64 x.op, .int .i64 x.wd, .int .i64 x.fl, .slice aa x.ar.length ca, .int .u32 x.im, .slice ta x.tt.length ct] 63)) (.cells #[.bool false, .int .i64 0, .int .u32 0] 47)
  simpa using this
 have f0 := cell_of_row _ _ 0 _ _ _ x0; have f1 := cell_of_row _ _ 1 _ _ _ x0; have f2 := cell_of_row _ _ 2 _ _ _ x0; have f3 := cell_of_row _ _ 3 _ _ _ x0; have f4 := cell_of_row _ _ 4 _ _ _ x0; have f5 := cell_of_row _ _ 5 _ _ _ x0
 have F0 := Lib.hid f0; have F1 := Lib.hid f1; have F2 := Lib.hid f2; have F3 := Lib.hid f3; have F4 := Lib.hid f4; have F5 := Lib.hid f5
 have HR2 := Lib.hid hr2
 clear hr2 hal x0
 go_enter Tryz.func89, Tryz.ntmps89
 go_upto_region 1 with fail
 generalize ((w.alloc _).alloc _) = w2 at *
 generalize hp1 : w.heap.size + 1 = p1 at *
 have HLe : Hid (w.heap.size ≤ p1) := Lib.hid (by omega)
 have HZ := Lib.hid HB.out.size
 clear hp1
 obtain ⟨v00, v01, v02⟩ := HVk.out w2 HB.out 0 (by omega)
 obtain ⟨v10, v11, v12⟩ := HVk.out w2 HB.out 1 (by omega)
 simp only [List.getD_cons_zero, List.getD_cons_succ, Nat.zero_mul, Nat.add_zero, Nat.one_mul] at v00 v01 v02 v10 v11 v12
 generalize hop : x.op = op at *
 rcases ho with rfl | rfl
 all_goals
  go_upto_region 22 with fail
  go_still_tail 11, (by kernel_rfl)
  change wpList _ _ _ _ _ w2.drew
  go_wp2_with fail
  refine (HBr.out _).mono ?_; rintro e w3 ⟨rfl, hb3⟩
  have HB3 := Lib.hid (HB.out.trans ((below_of_drew hb3).mono HZ.out))
  have hr3 := row_below HR2.out (below_of_drew hb3)
  have e0 := keep F0.out (below_of_drew hb3); have e1 := keep F1.out (below_of_drew hb3); have e2 := keep F2.out (below_of_drew hb3); have e3 := keep F3.out (below_of_drew hb3); have e4 := keep F4.out (below_of_drew hb3); have e5 := keep F5.out (below_of_drew hb3)
  have HR3 := Lib.hid hr3
  clear f0 f1 f2 f3 f4 f5 v00 v01 v02 v10 v11 v12 hb3 hr3
  go_wp2_with fail
  go_loopw [10] (fun i wr => ∃ k : Nat, k ≤ 2 ∧ i = .int .i64 k ∧ w3 = wr) (fun i _ => 2 - (intOf i).toNat)
  case atStart => exact ⟨0, Nat.zero_le _, rfl, rfl⟩
  case round =>
   obtain ⟨k, hk, rfl, rfl⟩ := hrel
   by_cases hlt : k < 2
   ·have hki : (k : Int) < 2 := by omega
    obtain ⟨v0, v1, v2⟩ := HVk.out w3 HB3.out k hlt
    go_wp2_with fail
    go_roundw
    case rel => exact ⟨k + 1, by omega, by go_num, by trivial⟩
    case measure => simp [intOf]; omega
   obtain rfl : k = 2 := by omega
   have c0 := cell_of_row _ _ 0 _ _ _ HR3.out
   go_wp2_with fail
   refine (HS.out w3 HB3.out).mono ?_; rintro e w4 ⟨rfl, hb4⟩
   have HB4 := Lib.hid (HB3.out.trans (hb4.mono HB3.out.size))
   have HR4 := Lib.hid (row_below HR3.out hb4)
   clear c0 e0 e1 e2 e3 e4 e5 hb4
   have c0 := cell_of_row _ _ 0 _ _ _ HR4.out; have c1 := cell_of_row _ _ 1 _ _ _ HR4.out; have c2 := cell_of_row _ _ 2 _ _ _ HR4.out
   have fz := fun j => frozen_of_row w4 p1 j _ _ HR4.out
   go_wp2_with fail
   refine bodyPost_ret (leave_vb Tryz.results89 _ w4 p1 rfl r HR4.out) rfl ?_
   exact ⟨rfl, HB4.out.trans ((three_save w4 p1 r).below HLe.out HB4.out.size)⟩
end Go.Proofs.YtbbbflnnbbaamaaGreatDoor.PK
namespace Go.Proofs.YtbbbflnnbbaamaaGreatDoor.PK
open Go.RowKit

abbrev wkRow (F : Fun) (A : FunA) (o0 o1 o2 o3 o4 bb : Value) (s : Int) (v h N : Nat) : Array Value :=
 #[.slice A.pa F.ps.length A.pc, .int .i64 F.ret, .slice A.sa F.sl.length A.sc, .slice A.ba F.bs.length A.bc, .slice none 0 0, .slice none 0 0, o0, o1, o2, o3, o4, .slice none 0 0, bb, .int .i64 s, .slice (some ⟨v, 0, none⟩) N N, .slice (some ⟨h, 0, none⟩) N N]
abbrev WkRow (w : World) (q : Nat) (F : Fun) (A : FunA) (o0 o1 o2 o3 o4 bb : Value) (s : Int) (v h N : Nat) : Prop := w.heap[q]? = some (.cells (wkRow F A o0 o1 o2 o3 o4 bb s v h N) 100 (0, 0))
set_option maxRecDepth 100000 in
theorem wEnd_done (q : Nat) (F : Fun) (A : FunA) (o0 o1 o2 o3 o4 bb : Value) (s : Int) (v h N : Nat) (a : Int) (w : World) (hr : WkRow w q F A o0 o1 o2 o3 o4 bb s v h N) :
  Calls Tryz.prog 90 #[.pointer (some ⟨q, 0, none⟩), .int .i64 0, valV a] w fun e w' => e = .returned (.tuple #[]) ∧ WkRow w' q F A (.int .i64 0) (.bool false) (.int .i64 0) (.int .u32 a) (.slice none 0 0) bb s v h N ∧ Save q w w' := by
 have hal : Below w.heap.size w (w.alloc (.cells #[.bool false, .int .i64 0, .int .u32 a] 47)) := (Below.refl _ _).alloc (Nat.le_refl _) _
 have hr0 : (w.alloc (.cells #[.bool false, .int .i64 0, .int .u32 a] 47)).heap[w.heap.size]? = some (.cells #[.bool false, .int .i64 0, .int .u32 a] 47 (0, 0)) := heap_alloc_new _ _
 have r0 := cell_of_row _ _ 0 _ _ _ hr0; have r1 := cell_of_row _ _ 1 _ _ _ hr0; have r2 := cell_of_row _ _ 2 _ _ _ hr0
 have hq := row_below hr hal
 have HB := Lib.hid (Save.of_below (q := q) hal)
 have hne : ¬ w.heap.size = q := fun e => by
  rw [e] at hr0; rw [hr0] at hq
  simp at hq
 have hne' : ¬ q = w.heap.size := fun e => hne e.symm
 have HQ := Lib.hid hq
 have c4 := cell_of_row _ _ 4 _ _ _ hq; have c6 := cell_of_row _ _ 6 _ _ _ hq; have c7 := cell_of_row _ _ 7 _ _ _ hq; have c8 := cell_of_row _ _ 8 _ _ _ hq; have c9 := cell_of_row _ _ 9 _ _ _ hq; have c10 := cell_of_row _ _ 10 _ _ _ hq
 have fz := fun j => frozen_of_row _ q j _ _ hq
 clear hal hr0 hr hq
 simp only [valV]
 go_enter Tryz.func90, Tryz.ntmps90
 go_upto_region 1 with fail
 generalize (w.alloc _) = w1 at *
 generalize w.heap.size = p at *
 go_wp2_with fail
 go_end0
 refine ⟨rfl, ?_, ?_⟩
 ·have h1 := HQ.out
  have h1 := heap_setCell_same _ q 6 _ _ (.int .i64 0) h1
  simp only [List.setIfInBounds_toArray, List.set_cons_succ, List.set_cons_zero] at h1
  have h1 := heap_setCell_same _ q 7 _ _ (.bool false) h1
  simp only [List.setIfInBounds_toArray, List.set_cons_succ, List.set_cons_zero] at h1
  have h1 := heap_setCell_same _ q 8 _ _ (.int .i64 0) h1
  simp only [List.setIfInBounds_toArray, List.set_cons_succ, List.set_cons_zero] at h1
  have h1 := heap_setCell_same _ q 9 _ _ (.int .u32 0) h1
  simp only [List.setIfInBounds_toArray, List.set_cons_succ, List.set_cons_zero] at h1
  have h1 := heap_setCell_same _ q 10 _ _ (.slice none 0 0) h1
  simp only [List.setIfInBounds_toArray, List.set_cons_succ, List.set_cons_zero] at h1
  have h1 := heap_setCell_same _ q 7 _ _ (.bool false) h1
  simp only [List.setIfInBounds_toArray, List.set_cons_succ, List.set_cons_zero] at h1
  have h1 := heap_setCell_same _ q 8 _ _ (.int .i64 0) h1
  simp only [List.setIfInBounds_toArray, List.set_cons_succ, List.set_cons_zero] at h1
  have h1 := heap_setCell_same _ q 9 _ _ (.int .u32 a) h1
  simp only [List.setIfInBounds_toArray, List.set_cons_succ, List.set_cons_zero] at h1
  have h1 := heap_setCell_same _ q 10 _ _ (.slice none 0 0) h1
  simp only [List.setIfInBounds_toArray, List.set_cons_succ, List.set_cons_zero] at h1
  exact h1
 ·exact ((((((((HB.out.trans (Save.set _ _ _ _)).trans (Save.set _ _ _ _)).trans (Save.set _ _ _ _)).trans (Save.set _ _ _ _)).trans (Save.set _ _ _ _)).trans (Save.set _ _ _ _)).trans (Save.set _ _ _ _)).trans (Save.set _ _ _ _)).trans (Save.set _ _ _ _)
set_option maxRecDepth 100000 in
theorem wLast_jump (q : Nat) (x : Ins) (aa ta : Option Addr) (ca ct : Nat) (la : Option Addr) (ln lc : Nat) (w : World) (ho : x.op = 29) (ht : IntsIn w ta x.tt) (h1 : 0 < x.tt.length) :
  Calls Tryz.prog 88 #[.pointer (some ⟨q, 0, none⟩), insV x aa ta ca ct, .slice la ln lc] w fun e w' => e = .returned (.int .i64 (x.tt.getD 0 0)) ∧ Below w.heap.size w w' := by
 obtain ⟨op, wd, fl, ar, im, tt⟩ := x
 simp only at ho ht h1 ⊢
 subst ho
 have hal : Below w.heap.size w (w.alloc (.cells #[.int .i64 29, .int .i64 wd, .int .i64 fl, .slice aa ar.length ca, .int .u32 im, .slice ta tt.length ct] 63)) := (Below.refl _ _).alloc (Nat.le_refl _) _
 obtain ⟨b, o, rfl, hc⟩ := ht 0 h1
 have hc := keep hc hal
 rw [Nat.add_zero] at hc
 have h1i : (0 : Int) < (tt.length : Int) := by omega
 have HB := Lib.hid hal
 generalize tt.getD 0 0 = y at *
 clear hal ht
 simp only [insV]
 go_enter Tryz.func88, Tryz.ntmps88
 go_wp2_with fail
 go_ret
 exact ⟨rfl, HB.out⟩
set_option maxRecDepth 100000 in
theorem wLast_branch (q : Nat) (x : Ins) (aa ta : Option Addr) (ca ct : Nat) (c : Bool) (la : Option Addr) (lc : Nat) (w : World) (ho : x.op = 30) (ht : IntsIn w ta x.tt) (h2 : x.tt.length = 2) (hv : ValsIn w la [if c then 1 else 0]) :
  Calls Tryz.prog 88 #[.pointer (some ⟨q, 0, none⟩), insV x aa ta ca ct, .slice la 1 lc] w fun e w' => e = .returned (.int .i64 (if c then x.tt.getD 0 0 else x.tt.getD 1 0)) ∧ Below w.heap.size w w' := by
 obtain ⟨op, wd, fl, ar, im, tt⟩ := x
 simp only at ho ht h2 ⊢
 subst ho
 have hal : Below w.heap.size w (w.alloc (.cells #[.int .i64 30, .int .i64 wd, .int .i64 fl, .slice aa ar.length ca, .int .u32 im, .slice ta tt.length ct] 63)) := (Below.refl _ _).alloc (Nat.le_refl _) _
 obtain ⟨b, o, rfl, hc0⟩ := ht 0 (by omega)
 obtain ⟨b', o', e, hc1⟩ := ht 1 (by omega)
 simp only [Option.some.injEq, Addr.mk.injEq, and_true] at e
 obtain ⟨rfl, rfl⟩ := e
 obtain ⟨vb, vo, rfl, v0, v1, v2⟩ := hv 0 (by simp)
 simp only [List.getD_cons_zero, Nat.zero_mul, Nat.add_zero] at v0 v1 v2
 have hc0 := keep hc0 hal; have hc1 := keep hc1 hal; have v0 := keep v0 hal; have v1 := keep v1 hal; have v2 := keep v2 hal
 rw [Nat.add_zero] at hc0
 simp only [insV]
 have HB := Lib.hid hal
 rw [h2] at HB hc0 hc1 v0 v1 v2 ⊢
 generalize tt.getD 0 0 = y at *
 generalize tt.getD 1 0 = z at *
 clear hal ht hv h2
 have x0 : (w.alloc (.cells #[.int .i64 30, .int .i64 wd, .int .i64 fl, .slice aa ar.length ca, .int .u32 im, .slice (some ⟨b, o, none⟩) 2 ct] 63)).cell? ⟨w.heap.size, 5, none⟩ = some (.slice (some ⟨b, o, none⟩) 2 ct) := by simp [go_sem]
 cases c
 ·simp only [Bool.false_eq_true, ↓reduceIte] at v2 ⊢
  go_enter Tryz.func88, Tryz.ntmps88
  go_upto_region 6 with fail
  go_quiet (fail)
  go_wp2_with fail
  go_ret
  exact ⟨rfl, below_drewN HB.out _⟩
 ·simp only [↓reduceIte] at v2 ⊢
  go_enter Tryz.func88, Tryz.ntmps88
  go_upto_region 6 with fail
  go_quiet (fail)
  go_wp2_with fail
  go_ret
  exact ⟨rfl, below_drewN HB.out _⟩
end Go.Proofs.YtbbbflnnbbaamaaGreatDoor.PK
namespace Go.Proofs.YtbbbflnnbbaamaaGreatDoor.PK
open Go.RowKit

theorem save_over {q p : Nat} {w w2 w3 : World} (h : Save q w w2) (k : Save p w2 w3) (hp : w.heap.size ≤ p) : Save q w w3 :=
 ⟨k.os.trans h.os, k.tape.trans h.tape, k.output.trans h.output, Nat.le_trans h.size k.size, fun j hj hq => (k.block j (Nat.lt_of_lt_of_le hj h.size) (by omega)).trans (h.block j hj hq)⟩
set_option maxRecDepth 100000 in
theorem wLast_ret (q : Nat) (F : Fun) (A : FunA) (o0 o1 o2 o3 o4 bb : Value) (s : Int) (v h N : Nat) (x : Ins) (aa ta : Option Addr) (ca ct : Nat) (a : Int) (la : Option Addr) (lc : Nat) (w : World) (ho : x.op = 31) (hv : ValsIn w la [a]) (hr : WkRow w q F A o0 o1 o2 o3 o4 bb s v h N) :
  Calls Tryz.prog 88 #[.pointer (some ⟨q, 0, none⟩), insV x aa ta ca ct, .slice la 1 lc] w fun e w' => e = .returned (.int .i64 (-1)) ∧ WkRow w' q F A (.int .i64 0) (.bool false) (.int .i64 0) (.int .u32 a) (.slice none 0 0) bb s v h N ∧ Save q w w' := by
 obtain ⟨op, wd, fl, ar, im, tt⟩ := x
 simp only at ho ⊢
 subst ho
 have hal : Below w.heap.size w (w.alloc (.cells #[.int .i64 31, .int .i64 wd, .int .i64 fl, .slice aa ar.length ca, .int .u32 im, .slice ta tt.length ct] 63)) := (Below.refl _ _).alloc (Nat.le_refl _) _
 obtain ⟨vb, vo, rfl, v0, v1, v2⟩ := hv 0 (by simp)
 simp only [List.getD_cons_zero, Nat.zero_mul, Nat.add_zero] at v0 v1 v2
 have hal2 : Below w.heap.size w ((w.alloc (.cells #[.int .i64 31, .int .i64 wd, .int .i64 fl, .slice aa ar.length ca, .int .u32 im, .slice ta tt.length ct] 63)).alloc (.cells #[.bool false, .int .i64 0, .int .u32 0] 47)) := hal.alloc (by simp) _
 have hr2 : ((w.alloc (.cells #[.int .i64 31, .int .i64 wd, .int .i64 fl, .slice aa ar.length ca, .int .u32 im, .slice ta tt.length ct] 63)).alloc (.cells #[.bool false, .int .i64 0, .int .u32 0] 47)).heap[w.heap.size + 1]? = some (.cells #[.bool false, .int .i64 0, .int .u32 0] 47 (0, 0)) := by
  have := heap_alloc_new (w.alloc (.cells #[.int .i64 31, .int .i64 wd, .int .i64 fl, .slice aa ar.length ca, .int .u32 im, .slice ta tt.length ct] 63)) (.cells #[.bool false, .int .i64 0, .int .u32 0] 47)
  simpa using this
 have HE := Lib.hid (fun u hu => wEnd_done q F A o0 o1 o2 o3 o4 bb s v h N a u hu)
 have HQ2 := Lib.hid (row_below hr hal2)
 have HB2 := Lib.hid (Save.of_below (q := q) hal2)
 have v0 := keep v0 hal2; have v1 := keep v1 hal2; have v2 := keep v2 hal2
 have HR2 := Lib.hid hr2
 clear hal hal2 hv hr hr2
 simp only [insV, valV] at HE ⊢
 go_enter Tryz.func88, Tryz.ntmps88
 go_upto_region 9 with fail
 generalize ((w.alloc _).alloc _) = w2 at *
 generalize hp : w.heap.size + 1 = p at *
 have HLe : Hid (w.heap.size ≤ p) := Lib.hid (by omega)
 clear hp
 have c0 := cell_of_row _ _ 0 _ _ _ HR2.out; have c1 := cell_of_row _ _ 1 _ _ _ HR2.out; have c2 := cell_of_row _ _ 2 _ _ _ HR2.out
 have fz := fun j => frozen_of_row w2 p j _ _ HR2.out
 have h3 := three_row a HR2.out
 have hq3 : WkRow (three w2 p a) q F A o0 o1 o2 o3 o4 bb s v h N := by
  have hlt : q < w2.heap.size := by
   rcases Nat.lt_or_ge q w2.heap.size with h1 | h1
   ·exact h1
   ·have := HQ2.out; rw [Array.getElem?_eq_none h1] at this; cases this
  refine ((three_save w2 p a).block q hlt fun e => ?_).trans HQ2.out
  have h5 := HQ2.out
  rw [e, HR2.out] at h5
  simp at h5
 have HE3 := Lib.hid (HE.out _ hq3)
 have hs3 : Save q w (three w2 p a) := save_over HB2.out (three_save w2 p a) HLe.out
 unfold three at HE3 hs3
 have HS3 := Lib.hid hs3
 clear h3 hq3 hs3
 go_wp2_with fail
 refine HE3.out.mono ?_; rintro e w3 ⟨rfl, hr3, hs3⟩
 have HR3 := Lib.hid hr3; have HS4 := Lib.hid (HS3.out.trans hs3)
 clear hr3 hs3 v0 v1 v2 c0 c1 c2 fz
 go_wp2_with fail
 go_ret
 exact ⟨rfl, HR3.out, HS4.out⟩
end Go.Proofs.YtbbbflnnbbaamaaGreatDoor.PK
