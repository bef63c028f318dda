/- Packed of several texts. -/
import Derived.Test.YtbbbflnnbbaamaaGreatDoorH44
import Derived.Laws.MakeOwn
import Derived.Deep.LoopGhost
namespace Go.Proofs.YtbbbflnnbbaamaaGreatDoor.PK
open Go.RowKit

theorem vals_cells (n : Nat) : madeCells #[.bool false, .int .i64 0, .int .u32 0] (n * 3) = (encV (List.replicate n 0)).toArray := by
 have hl : (encV (List.replicate n 0)).length = n * 3 := by rw [encV_len, List.length_replicate]
 unfold madeCells
 apply Array.ext
 ·simp [hl]
 ·intro i h1 h2
  have hi : i < n * 3 := by simpa using h1
  have hk : i / 3 < (List.replicate n (0 : Int)).length := by rw [List.length_replicate]; omega
  obtain ⟨e0, e1, e2⟩ := encV_get (List.replicate n 0) (i / 3) hk
  have hg : (List.replicate n (0 : Int)).getD (i / 3) 0 = 0 := by simp [List.getD_eq_getElem?_getD, List.getElem?_replicate]; split <;> rfl
  rw [hg] at e2
  have hm : i % 3 = 0 ∨ i % 3 = 1 ∨ i % 3 = 2 := by omega
  rcases hm with h | h | h
  ·rw [show i / 3 * 3 = i by omega, List.getElem?_eq_getElem (by rw [hl]; exact hi)] at e0
   simp only [Option.some.injEq] at e0
   simp [h, e0]
  ·rw [show i / 3 * 3 + 1 = i by omega, List.getElem?_eq_getElem (by rw [hl]; exact hi)] at e1
   simp only [Option.some.injEq] at e1
   simp [h, e1]
  ·rw [show i / 3 * 3 + 2 = i by omega, List.getElem?_eq_getElem (by rw [hl]; exact hi)] at e2
   simp only [Option.some.injEq] at e2
   simp [h, e2]
theorem run_make_vals (n : Nat) (hn : n ≤ 1000000) (w : World) : (Instr.makeSlice 72 (.int .i64 (n : Int)) (.int .i64 (n : Int))).run Tryz.prog w = .ok (.slice (some ⟨w.heap.size, 0, none⟩) n n) (w.alloc (.cells (encV (List.replicate n 0)).toArray 47)) := by
 obtain ⟨i, hi, h0, h1, h2⟩ := info_parts infoVal
 have h := run_make (P := Tryz.prog) w 72 47 i _ Tryz.underlying72 hi h0 .i64 .i64 n n (by omega) (by omega) (by rw [h2]; omega) (by omega)
 rw [h1, Int.toNat_natCast] at h
 rw [← vals_cells]
 exact h
theorem vals_made (w : World) (n : Nat) (hn : n ≤ 1000000) : (w.alloc (.cells (encV (List.replicate n 0)).toArray 47)).ownsRow w.heap.size 47 3 (.slice (some ⟨w.heap.size, 0, none⟩) n n) n (encV (List.replicate n 0)) := by
 have hl : (encV (List.replicate n 0)).length = n * 3 := by rw [encV_len, List.length_replicate]
 refine ⟨hl, .inr ⟨w.heap.size, n, _, rfl, Nat.le_refl _, heap_alloc_new w _, Nat.le_refl _, by unfold maxLen; omega, ?_, ?_⟩⟩
 ·simp [hl]
 ·rw [List.take_of_length_le (by simp [hl])]
theorem infoBoolT : (Tryz.prog.info? 4).map (fun i => (i.zero, i.size, i.bytes)) = some (some (.bool false), 1, 1) := by kernel_rfl
theorem bools_made (w : World) (n : Nat) (hn : n ≤ 1000000) : (w.alloc (.cells (madeCells #[.bool false] n) 4)).ownsRow w.heap.size 4 1 (.slice (some ⟨w.heap.size, 0, none⟩) n n) n (madeCells #[.bool false] n).toList := by
 have hl : (madeCells #[.bool false] n).size = n := size_madeCells _ _
 refine ⟨by simp [hl], .inr ⟨w.heap.size, n, _, rfl, Nat.le_refl _, heap_alloc_new w _, Nat.le_refl _, by unfold maxLen; omega, ?_, ?_⟩⟩
 ·simp [hl]
 ·rw [List.take_of_length_le (by simp [hl])]
structure Path (F : Fun) (m : Nat) (bk : Nat → Nat) (frm : Nat → Int) (L : Nat → List Int) (s : Nat → Nat) : Prop where
 m1 : 1 ≤ m
 m2 : m ≤ 400
 b0 : bk 0 = 0
 f0 : frm 0 = -1
 l0 : L 0 = List.replicate (kdsI F).length 0
 s0 : s 0 = 0
 sm : s m < 400
 step : ∀ i, i < m → ∃ np mm rd r nx, BlkR F (L i) (bk i) (frm i) np mm rd r nx ∧ L (i + 1) = vlO (wrK (L i) (F.ps.length + sumI F.bs (bk i)) rd np) (F.ps.length + sumI F.bs (bk i)) np r mm ∧ s (i + 1) = s i + np + mm + 1 ∧ bk i < F.bs.length ∧ nx = (if i + 1 = m then -1 else ((bk (i + 1) : Nat) : Int)) ∧ frm (i + 1) = ((bk i : Nat) : Int)
theorem Path.len {F : Fun} {m : Nat} {bk : Nat → Nat} {frm : Nat → Int} {L : Nat → List Int} {s : Nat → Nat} (h : Path F m bk frm L s) : ∀ i, i ≤ m → (L i).length = (kdsI F).length
 | 0, _ => by rw [h.l0, List.length_replicate]
 | i + 1, hi => by
  obtain ⟨np, mm, rd, r, nx, _, h1, _⟩ := h.step i hi
  rw [h1, vlO_len, wrK_len]
  exact h.len i (by omega)
theorem Path.mono {F : Fun} {m : Nat} {bk : Nat → Nat} {frm : Nat → Int} {L : Nat → List Int} {s : Nat → Nat} (h : Path F m bk frm L s) {i : Nat} (hi : i ≤ m) : ∀ d, i + d ≤ m → s i + d ≤ s (i + d)
 | 0, _ => Nat.le_refl _
 | d + 1, hd => by
  obtain ⟨np, mm, rd, r, nx, _, _, h1, _⟩ := h.step (i + d) (by omega)
  have := h.mono hi d (by omega)
  rw [show i + (d + 1) = i + d + 1 by omega, h1]; omega
def blksP (bk : Nat → Nat) (i : Nat) : List Int := (List.range i).map fun k => ((bk k : Nat) : Int)
theorem blksP_succ (bk : Nat → Nat) (i : Nat) : blksP bk (i + 1) = blksP bk i ++ [((bk i : Nat) : Int)] := by simp [blksP, List.range_succ]
theorem blksP_len (bk : Nat → Nat) (i : Nat) : (blksP bk i).length = i := by simp [blksP]
def ten (w : World) (p : Nat) (x0 x1 x2 x3 x4 x5 x6 x7 x8 x9 : Value) : World := ((((((((((w.setCell ⟨p, 0, none⟩ x0).setCell ⟨p, 1, none⟩ x1).setCell ⟨p, 2, none⟩ x2).setCell ⟨p, 3, none⟩ x3).setCell ⟨p, 4, none⟩ x4).setCell ⟨p, 5, none⟩ x5).setCell ⟨p, 6, none⟩ x6).setCell ⟨p, 7, none⟩ x7).setCell ⟨p, 8, none⟩ x8).setCell ⟨p, 9, none⟩ x9)
theorem ten_row {w : World} {p : Nat} {y0 y1 y2 y3 y4 y5 y6 y7 y8 y9 : Value} (x0 x1 x2 x3 x4 x5 x6 x7 x8 x9 : Value) (h : w.heap[p]? = some (.cells #[y0, y1, y2, y3, y4, y5, y6, y7, y8, y9] 75 (0, 0))) : (ten w p x0 x1 x2 x3 x4 x5 x6 x7 x8 x9).heap[p]? = some (.cells #[x0, x1, x2, x3, x4, x5, x6, x7, x8, x9] 75 (0, 0)) := by
 have h1 := h
 have h1 := heap_setCell_same _ p 0 _ _ x0 h1
 simp only [List.setIfInBounds_toArray, List.set_cons_zero] at h1
 have h1 := heap_setCell_same _ p 1 _ _ x1 h1
 simp only [List.setIfInBounds_toArray, List.set_cons_succ, List.set_cons_zero] at h1
 have h1 := heap_setCell_same _ p 2 _ _ x2 h1
 simp only [List.setIfInBounds_toArray, List.set_cons_succ, List.set_cons_zero] at h1
 have h1 := heap_setCell_same _ p 3 _ _ x3 h1
 simp only [List.setIfInBounds_toArray, List.set_cons_succ, List.set_cons_zero] at h1
 have h1 := heap_setCell_same _ p 4 _ _ x4 h1
 simp only [List.setIfInBounds_toArray, List.set_cons_succ, List.set_cons_zero] at h1
 have h1 := heap_setCell_same _ p 5 _ _ x5 h1
 simp only [List.setIfInBounds_toArray, List.set_cons_succ, List.set_cons_zero] at h1
 have h1 := heap_setCell_same _ p 6 _ _ x6 h1
 simp only [List.setIfInBounds_toArray, List.set_cons_succ, List.set_cons_zero] at h1
 have h1 := heap_setCell_same _ p 7 _ _ x7 h1
 simp only [List.setIfInBounds_toArray, List.set_cons_succ, List.set_cons_zero] at h1
 have h1 := heap_setCell_same _ p 8 _ _ x8 h1
 simp only [List.setIfInBounds_toArray, List.set_cons_succ, List.set_cons_zero] at h1
 have h1 := heap_setCell_same _ p 9 _ _ x9 h1
 simp only [List.setIfInBounds_toArray, List.set_cons_succ, List.set_cons_zero] at h1
 exact h1
theorem ten_save (w : World) (p : Nat) (x0 x1 x2 x3 x4 x5 x6 x7 x8 x9 : Value) : Save p w (ten w p x0 x1 x2 x3 x4 x5 x6 x7 x8 x9) :=
 (((((((((Save.set p 0 w x0).trans (Save.set p 1 _ _)).trans (Save.set p 2 _ _)).trans (Save.set p 3 _ _)).trans (Save.set p 4 _ _)).trans (Save.set p 5 _ _)).trans (Save.set p 6 _ _)).trans (Save.set p 7 _ _)).trans (Save.set p 8 _ _)).trans (Save.set p 9 _ _)
set_option maxRecDepth 100000 in
theorem results_ten {fn : Func} {d : Tmp} (h : fn.results = #[.cell d 75]) (tmps : Array Value) (w : World) (p : Nat) (hp : tmps.getD d undef = .pointer (some ⟨p, 0, none⟩)) (x0 x1 x2 x3 x4 x5 x6 x7 x8 x9 : Value) (hr : w.heap[p]? = some (.cells #[x0, x1, x2, x3, x4, x5, x6, x7, x8, x9] 75 (0, 0))) :
  (results fn tmps).run Tryz.prog w = .ok (.agg #[x0, x1, x2, x3, x4, x5, x6, x7, x8, x9]) w := by
 have hp' : tmps[d]?.getD undef = .pointer (some ⟨p, 0, none⟩) := by simpa using hp
 have c0 := cell_of_row _ _ 0 _ _ _ hr
 have c1 := cell_of_row _ _ 1 _ _ _ hr
 have c2 := cell_of_row _ _ 2 _ _ _ hr
 have c3 := cell_of_row _ _ 3 _ _ _ hr
 have c4 := cell_of_row _ _ 4 _ _ _ hr
 have c5 := cell_of_row _ _ 5 _ _ _ hr
 have c6 := cell_of_row _ _ 6 _ _ _ hr
 have c7 := cell_of_row _ _ 7 _ _ _ hr
 have c8 := cell_of_row _ _ 8 _ _ _ hr
 have c9 := cell_of_row _ _ 9 _ _ _ hr
 simp [results, h, hp', asAddr, loadVar, c0, c1, c2, c3, c4, c5, c6, c7, c8, c9, go_sem]
def RunPost (m : Nat) (B : List Int) (w : World) (e : Ending) (w' : World) : Prop :=
 ∃ o0 o1 o2 o3 o4 ba bc s' v1 v2, e = .returned (.agg #[.int .i64 o0, .bool o1, .int .i64 o2, .int .u32 o3, o4, .slice none 0 0, .slice ba m bc, .int .i64 s', v1, v2]) ∧ IntsIn w' ba B ∧ Below w.heap.size w w'
set_option maxRecDepth 100000 in
set_option maxHeartbeats 4000000 in
theorem wRun_any (F : Fun) (A : FunA) (m : Nat) (bk : Nat → Nat) (frm : Nat → Int) (L : Nat → List Int) (s : Nat → Nat) (w : World) (hin : FunIn w F A) (hs : FunSm F) (hP : Path F m bk frm L s) :
  Calls Tryz.prog 27 #[funV F A, .agg #[.slice none 0 0, .slice none 0 0], .slice none 0 0] w (RunPost m (blksP bk m) w) := by
 have hk : (kdsI F).length ≤ 1000000 := by
  rw [kdsI_len]
  have := hs.sum F.bs.length (Nat.le_refl _)
  have := hs.ps
  omega
 have HNu := Lib.hid (fun u (hu : Below w.heap.size w u) => Number_any F A F.bs.length u (hin.below hu) hs (Nat.le_refl _))
 rw [← kdsI_len] at HNu
 have hmk := run_make_vals (kdsI F).length hk
 have hmb := run_make_row' (P := Tryz.prog) 73 4 (.bool false) 1 Tryz.underlying73 infoBoolT rfl .i64 .i64 (kdsI F).length (by omega) (by omega)
 obtain ⟨pa, pc, sa, sc, ba, bc⟩ := A
 simp only [funV, funC] at HNu ⊢
 generalize hN : (kdsI F).length = N at *
 have HN := Lib.hid hN
 clear hN
 have HP := Lib.hid hP; have HIn := Lib.hid hin; have HSm := Lib.hid hs
 clear hin hs hP
 have hal : Below w.heap.size w ((((w.alloc (.cells #[.slice pa F.ps.length pc, .int .i64 F.ret, .slice sa F.sl.length sc, .slice ba F.bs.length bc] 31)).alloc (.cells #[.slice none 0 0, .slice none 0 0] 41)).alloc (.cells #[.int .i64 0, .bool false, .int .i64 0, .int .u32 0, .slice none 0 0, .slice none 0 0, .slice none 0 0, .int .i64 0, .slice none 0 0, .slice none 0 0] 75)).alloc (.cells #[.slice pa F.ps.length pc, .int .i64 F.ret, .slice sa F.sl.length sc, .slice ba F.bs.length bc, .slice none 0 0, .slice none 0 0, .int .i64 0, .bool false, .int .i64 0, .int .u32 0, .slice none 0 0, .slice none 0 0, .slice none 0 0, .int .i64 0, .slice none 0 0, .slice none 0 0] 100)) := (((((Below.refl _ _).alloc (Nat.le_refl _) _).alloc (by simp) _).alloc (by simp; omega) _).alloc (by simp; omega) _)
 have hrF : ((((w.alloc (.cells #[.slice pa F.ps.length pc, .int .i64 F.ret, .slice sa F.sl.length sc, .slice ba F.bs.length bc] 31)).alloc (.cells #[.slice none 0 0, .slice none 0 0] 41)).alloc (.cells #[.int .i64 0, .bool false, .int .i64 0, .int .u32 0, .slice none 0 0, .slice none 0 0, .slice none 0 0, .int .i64 0, .slice none 0 0, .slice none 0 0] 75)).alloc (.cells #[.slice pa F.ps.length pc, .int .i64 F.ret, .slice sa F.sl.length sc, .slice ba F.bs.length bc, .slice none 0 0, .slice none 0 0, .int .i64 0, .bool false, .int .i64 0, .int .u32 0, .slice none 0 0, .slice none 0 0, .slice none 0 0, .int .i64 0, .slice none 0 0, .slice none 0 0] 100)).heap[w.heap.size]? = some (.cells #[.slice pa F.ps.length pc, .int .i64 F.ret, .slice sa F.sl.length sc, .slice ba F.bs.length bc] 31 (0, 0)) := by
  rw [Below.heap_alloc _ _ _ (by simp; omega), Below.heap_alloc _ _ _ (by simp; omega), Below.heap_alloc _ _ _ (by simp)]
  exact heap_alloc_new _ _
 have hrI : ((((w.alloc (.cells #[.slice pa F.ps.length pc, .int .i64 F.ret, .slice sa F.sl.length sc, .slice ba F.bs.length bc] 31)).alloc (.cells #[.slice none 0 0, .slice none 0 0] 41)).alloc (.cells #[.int .i64 0, .bool false, .int .i64 0, .int .u32 0, .slice none 0 0, .slice none 0 0, .slice none 0 0, .int .i64 0, .slice none 0 0, .slice none 0 0] 75)).alloc (.cells #[.slice pa F.ps.length pc, .int .i64 F.ret, .slice sa F.sl.length sc, .slice ba F.bs.length bc, .slice none 0 0, .slice none 0 0, .int .i64 0, .bool false, .int .i64 0, .int .u32 0, .slice none 0 0, .slice none 0 0, .slice none 0 0, .int .i64 0, .slice none 0 0, .slice none 0 0] 100)).heap[w.heap.size + 1]? = some (.cells #[.slice none 0 0, .slice none 0 0] 41 (0, 0)) := by
  rw [Below.heap_alloc _ _ _ (by simp), Below.heap_alloc _ _ _ (by simp)]
  have := heap_alloc_new (w.alloc (.cells #[.slice pa F.ps.length pc, .int .i64 F.ret, .slice sa F.sl.length sc, .slice ba F.bs.length bc] 31)) (.cells #[.slice none 0 0, .slice none 0 0] 41)
  simpa using this
 have hrL : ((((w.alloc (.cells #[.slice pa F.ps.length pc, .int .i64 F.ret, .slice sa F.sl.length sc, .slice ba F.bs.length bc] 31)).alloc (.cells #[.slice none 0 0, .slice none 0 0] 41)).alloc (.cells #[.int .i64 0, .bool false, .int .i64 0, .int .u32 0, .slice none 0 0, .slice none 0 0, .slice none 0 0, .int .i64 0, .slice none 0 0, .slice none 0 0] 75)).alloc (.cells #[.slice pa F.ps.length pc, .int .i64 F.ret, .slice sa F.sl.length sc, .slice ba F.bs.length bc, .slice none 0 0, .slice none 0 0, .int .i64 0, .bool false, .int .i64 0, .int .u32 0, .slice none 0 0, .slice none 0 0, .slice none 0 0, .int .i64 0, .slice none 0 0, .slice none 0 0] 100)).heap[w.heap.size + 2]? = some (.cells #[.int .i64 0, .bool false, .int .i64 0, .int .u32 0, .slice none 0 0, .slice none 0 0, .slice none 0 0, .int .i64 0, .slice none 0 0, .slice none 0 0] 75 (0, 0)) := by
  rw [Below.heap_alloc _ _ _ (by simp)]
  have := heap_alloc_new ((w.alloc (.cells #[.slice pa F.ps.length pc, .int .i64 F.ret, .slice sa F.sl.length sc, .slice ba F.bs.length bc] 31)).alloc (.cells #[.slice none 0 0, .slice none 0 0] 41)) (.cells #[.int .i64 0, .bool false, .int .i64 0, .int .u32 0, .slice none 0 0, .slice none 0 0, .slice none 0 0, .int .i64 0, .slice none 0 0, .slice none 0 0] 75)
  simpa using this
 have hrQ : ((((w.alloc (.cells #[.slice pa F.ps.length pc, .int .i64 F.ret, .slice sa F.sl.length sc, .slice ba F.bs.length bc] 31)).alloc (.cells #[.slice none 0 0, .slice none 0 0] 41)).alloc (.cells #[.int .i64 0, .bool false, .int .i64 0, .int .u32 0, .slice none 0 0, .slice none 0 0, .slice none 0 0, .int .i64 0, .slice none 0 0, .slice none 0 0] 75)).alloc (.cells #[.slice pa F.ps.length pc, .int .i64 F.ret, .slice sa F.sl.length sc, .slice ba F.bs.length bc, .slice none 0 0, .slice none 0 0, .int .i64 0, .bool false, .int .i64 0, .int .u32 0, .slice none 0 0, .slice none 0 0, .slice none 0 0, .int .i64 0, .slice none 0 0, .slice none 0 0] 100)).heap[w.heap.size + 3]? = some (.cells #[.slice pa F.ps.length pc, .int .i64 F.ret, .slice sa F.sl.length sc, .slice ba F.bs.length bc, .slice none 0 0, .slice none 0 0, .int .i64 0, .bool false, .int .i64 0, .int .u32 0, .slice none 0 0, .slice none 0 0, .slice none 0 0, .int .i64 0, .slice none 0 0, .slice none 0 0] 100 (0, 0)) := by
  have := heap_alloc_new (((w.alloc (.cells #[.slice pa F.ps.length pc, .int .i64 F.ret, .slice sa F.sl.length sc, .slice ba F.bs.length bc] 31)).alloc (.cells #[.slice none 0 0, .slice none 0 0] 41)).alloc (.cells #[.int .i64 0, .bool false, .int .i64 0, .int .u32 0, .slice none 0 0, .slice none 0 0, .slice none 0 0, .int .i64 0, .slice none 0 0, .slice none 0 0] 75)) (.cells #[.slice pa F.ps.length pc, .int .i64 F.ret, .slice sa F.sl.length sc, .slice ba F.bs.length bc, .slice none 0 0, .slice none 0 0, .int .i64 0, .bool false, .int .i64 0, .int .u32 0, .slice none 0 0, .slice none 0 0, .slice none 0 0, .int .i64 0, .slice none 0 0, .slice none 0 0] 100)
  simpa using this
 have HB1 := Lib.hid hal; have HF1 := Lib.hid hrF; have HI1 := Lib.hid hrI; have HL1 := Lib.hid hrL; have HQ1 := Lib.hid hrQ
 clear hal hrF hrI hrL hrQ
 go_enter Tryz.func27, Tryz.ntmps27
 go_upto_region 2 with fail
 have e1 : w.heap.size + 1 + 1 = w.heap.size + 2 := by omega
 have e2 : w.heap.size + 1 + 1 + 1 = w.heap.size + 3 := by omega
 rw [e2, e1]
 generalize ((((w.alloc _).alloc _).alloc _).alloc _) = w1 at *
 generalize hpf : w.heap.size = pf at *
 have HPf := Lib.hid hpf
 clear e1 e2 hpf
 have f0 := cell_of_row _ _ 0 _ _ _ HF1.out; have f1 := cell_of_row _ _ 1 _ _ _ HF1.out; have f2 := cell_of_row _ _ 2 _ _ _ HF1.out; have f3 := cell_of_row _ _ 3 _ _ _ HF1.out
 have i0 := cell_of_row _ _ 0 _ _ _ HI1.out; have i1 := cell_of_row _ _ 1 _ _ _ HI1.out
 go_wp2_with fail
 clear f0 f1 f2 f3 i0 i1
 go_loopw [8] (fun i wr => i = .int .i64 0 ∧ w1 = wr) (fun _ _ => 0)
 case atStart => exact ⟨rfl, rfl⟩
 case round =>
  obtain ⟨rfl, rfl⟩ := hrel
  have f0 := cell_of_row _ _ 0 _ _ _ HF1.out; have f1 := cell_of_row _ _ 1 _ _ _ HF1.out; have f2 := cell_of_row _ _ 2 _ _ _ HF1.out; have f3 := cell_of_row _ _ 3 _ _ _ HF1.out
  have i1 := cell_of_row _ _ 1 _ _ _ HI1.out
  go_wp2_with fail
  refine (HNu.out w1 HB1.out).mono ?_; rintro e w2 ⟨rfl, hb2⟩
  have hz1 := HB1.out.size
  have hz2 := hb2.size
  have hq1 : pf + 3 < w1.heap.size := lt_of_block HQ1.out
  have HB2 := Lib.hid (HB1.out.trans (hb2.mono (by omega)))
  have HI2 := Lib.hid (row_below HI1.out hb2); have HL2 := Lib.hid (row_below HL1.out hb2); have HQ2 := Lib.hid (row_below HQ1.out hb2)
  clear f0 f1 f2 f3 i1 hb2
  -- the two rows
  have HV3 := Lib.hid (vals_made w2 N hk)
  have HB3 := Lib.hid ((Below.refl w2.heap.size w2).alloc (Nat.le_refl _) (.cells (encV (List.replicate N 0)).toArray 47))
  have hz3 : (w2.alloc (.cells (encV (List.replicate N 0)).toArray 47)).heap.size = w2.heap.size + 1 := by simp
  have HQ3 := Lib.hid (row_below HQ2.out HB3.out); have HI3 := Lib.hid (row_below HI2.out HB3.out); have HL3 := Lib.hid (row_below HL2.out HB3.out)
  have q14 := cell_of_row _ _ 14 _ _ _ HQ3.out
  have fz14 := frozen_of_row _ (pf + 3) 14 _ _ HQ3.out
  go_upto_region 8 with fail
  generalize (w2.alloc _) = w3 at *
  generalize hv : w2.heap.size = v at *
  have HVe := Lib.hid hv; clear hv
  have hs4 := Save.set (pf + 3) 14 w3 (.slice (some ⟨v, 0, none⟩) N N)
  have HQ4 := Lib.hid (heap_setCell_same _ (pf + 3) 14 _ _ (.slice (some ⟨v, 0, none⟩) N N) HQ3.out)
  have hqv : pf + 3 < v := by omega
  have HV4 := Lib.hid (owns_of_block (w' := w3.setCell ⟨pf + 3, 14, none⟩ (.slice (some ⟨v, 0, none⟩) N N)) HV3.out fun g h1 h2 _ => hs4.block g h2 (by omega))
  have HI4 := Lib.hid ((hs4.block (pf + 1) (by omega) (by omega)).trans HI3.out); have HL4 := Lib.hid ((hs4.block (pf + 2) (by omega) (by omega)).trans HL3.out)
  have HB4 : Hid (Below pf w (w3.setCell ⟨pf + 3, 14, none⟩ (.slice (some ⟨v, 0, none⟩) N N))) := Lib.hid ((HB2.out.trans (HB3.out.mono (by omega))).trans (hs4.below (by omega) (by omega)))
  have hz4 := hs4.size
  clear q14 fz14
  generalize w3.setCell ⟨pf + 3, 14, none⟩ (.slice (some ⟨v, 0, none⟩) N N) = w4 at *
  clear hs4
  have HH5 := Lib.hid (bools_made w4 N hk)
  have HB5 := Lib.hid ((Below.refl w4.heap.size w4).alloc (Nat.le_refl _) (.cells (madeCells #[.bool false] N) 4))
  have hz5 : (w4.alloc (.cells (madeCells #[.bool false] N) 4)).heap.size = w4.heap.size + 1 := by simp
  have HQ5 := Lib.hid (row_below HQ4.out HB5.out); have HI5 := Lib.hid (row_below HI4.out HB5.out); have HL5 := Lib.hid (row_below HL4.out HB5.out)
  have HV5 := Lib.hid (owns_below HV4.out HB5.out)
  have q15 := cell_of_row _ _ 15 _ _ _ HQ5.out
  have fz15 := frozen_of_row _ (pf + 3) 15 _ _ HQ5.out
  go_upto_region 9 with fail
  generalize (w4.alloc _) = w5 at *
  generalize hh : w4.heap.size = h at *
  clear hh
  have hs6 := Save.set (pf + 3) 15 w5 (.slice (some ⟨h, 0, none⟩) N N)
  have hq6 := heap_setCell_same _ (pf + 3) 15 _ _ (.slice (some ⟨h, 0, none⟩) N N) HQ5.out
  simp only [List.setIfInBounds_toArray, List.set_cons_succ, List.set_cons_zero] at hq6
  have HV6 := Lib.hid (owns_of_block (w' := w5.setCell ⟨pf + 3, 15, none⟩ (.slice (some ⟨h, 0, none⟩) N N)) HV5.out fun g h1 h2 _ => hs6.block g h2 (by omega))
  have HH6 := Lib.hid (owns_of_block (w' := w5.setCell ⟨pf + 3, 15, none⟩ (.slice (some ⟨h, 0, none⟩) N N)) HH5.out fun g h1 h2 _ => hs6.block g h2 (by omega))
  have HI6 := Lib.hid ((hs6.block (pf + 1) (by omega) (by omega)).trans HI5.out); have HL6 := Lib.hid ((hs6.block (pf + 2) (by omega) (by omega)).trans HL5.out)
  have HB6 : Hid (Below pf w (w5.setCell ⟨pf + 3, 15, none⟩ (.slice (some ⟨h, 0, none⟩) N N))) := Lib.hid ((HB4.out.trans (HB5.out.mono (by omega))).trans (hs6.below (by omega) (by omega)))
  have hz6 := hs6.size
  have HRun0 : Hid (RunAt (w5.setCell ⟨pf + 3, 15, none⟩ (.slice (some ⟨h, 0, none⟩) N N)) (pf + 3) (pf + 3) v h F ⟨pa, pc, sa, sc, ba, bc⟩ [] (List.replicate N 0) 0) := Lib.hid ⟨.slice none 0 0, ⟨⟨0, false, 0, 0, (none, 0, 0), by rw [List.length_replicate]; exact hq6⟩, by rw [List.length_replicate]; exact owns_base HV6.out (by omega), _, by rw [List.length_replicate]; exact owns_base HH6.out (by omega)⟩, owns_nil _ _ _ _⟩
  clear hq6 q15 fz15
  generalize w5.setCell ⟨pf + 3, 15, none⟩ (.slice (some ⟨h, 0, none⟩) N N) = w6 at *
  clear hs6 hmk hmb
  go_wp2_with fail
  go_loopw [10] (fun i wr => i = .int .i64 0 ∧ w6 = wr) (fun _ _ => 0)
  case atStart => exact ⟨rfl, rfl⟩
  case round =>
   obtain ⟨rfl, rfl⟩ := hrel
   have i0 := cell_of_row _ _ 0 _ _ _ HI6.out
   go_wp2_with fail
   clear i0
   go_loopg [12, 11] m (fun g b f wr => ∃ (i : Nat) (bv : Int), i ≤ m ∧ g = m - i ∧ b = .int .i64 bv ∧ Hid (bv = if i = m then -1 else ((bk i : Nat) : Int)) ∧ f = .int .i64 (frm i) ∧ RunAt wr (pf + 3) (pf + 3) v h F ⟨pa, pc, sa, sc, ba, bc⟩ (blksP bk i) (L i) (s i : Nat) ∧ Below (pf + 3) w6 wr)
   case atStart => exact ⟨0, 0, Nat.zero_le _, rfl, rfl, Lib.hid (by rw [if_neg (by have := HP.out.m1; omega), HP.out.b0]; rfl), by rw [HP.out.f0], by rw [HP.out.l0, HP.out.s0, HN.out]; exact HRun0.out, Below.refl _ _⟩
   case round =>
    obtain ⟨i, bv, hi, hg, rfl, hbv, rfl, hrun, hbr⟩ := hrel
    have HRun := Lib.hid hrun; have HBr := Lib.hid hbr
    by_cases him : i = m
    ·subst him
     obtain rfl : bv = -1 := hbv.out.trans (if_pos rfl)
     obtain ⟨bb, hw, ho⟩ := hrun.ex
     obtain ⟨o0, o1, o2, o3, o4, hr⟩ := hw.row
     obtain ⟨ba', bc', hbe, _, hii⟩ := ints_of_owns ho
     have HGe : Hid (∀ k, k < (blksP bk i).length → ∃ g, ba' = some ⟨g, 0, none⟩ ∧ pf + 3 ≤ g) := Lib.hid fun k hk => by
      obtain ⟨g, cp, e, _, _, hg, _⟩ := owns_cells ho (by omega)
      rw [hbe] at e
      simp only [Value.slice.injEq] at e
      exact ⟨g, e.1, hg⟩
     rw [blksP_len] at hbe
     subst hbe
     have c6 := cell_of_row _ _ 6 _ _ _ hr; have c7 := cell_of_row _ _ 7 _ _ _ hr; have c8 := cell_of_row _ _ 8 _ _ _ hr; have c9 := cell_of_row _ _ 9 _ _ _ hr; have c10 := cell_of_row _ _ 10 _ _ _ hr; have c11 := cell_of_row _ _ 11 _ _ _ hr; have c12 := cell_of_row _ _ 12 _ _ _ hr; have c13 := cell_of_row _ _ 13 _ _ _ hr; have c14 := cell_of_row _ _ 14 _ _ _ hr; have c15 := cell_of_row _ _ 15 _ _ _ hr
     have hlr := (hbr.block (pf + 2) (by omega)).trans HL6.out
     have HLr := Lib.hid hlr
     have l0 := cell_of_row _ _ 0 _ _ _ hlr; have l1 := cell_of_row _ _ 1 _ _ _ hlr; have l2 := cell_of_row _ _ 2 _ _ _ hlr; have l3 := cell_of_row _ _ 3 _ _ _ hlr; have l4 := cell_of_row _ _ 4 _ _ _ hlr; have l5 := cell_of_row _ _ 5 _ _ _ hlr; have l6 := cell_of_row _ _ 6 _ _ _ hlr; have l7 := cell_of_row _ _ 7 _ _ _ hlr; have l8 := cell_of_row _ _ 8 _ _ _ hlr; have l9 := cell_of_row _ _ 9 _ _ _ hlr
     have fz := fun j => frozen_of_row _ (pf + 2) j _ _ hlr
     have HII := Lib.hid hii
     generalize (L i).length = nn at *
     clear hrun hbr hw ho hr hii hlr
     go_wp2_with fail
     have hzr := HBr.out.size
     have hrow := ten_row (.int .i64 o0) (.bool o1) (.int .i64 o2) (.int .u32 o3) (.slice o4.1 o4.2.1 o4.2.2) (.slice none 0 0) (.slice ba' i bc') (.int .i64 ((s i : Nat) : Int)) (.slice (some ⟨v, 0, none⟩) nn nn) (.slice (some ⟨h, 0, none⟩) nn nn) HLr.out
     have hsv : Below pf w (ten wr (pf + 2) (.int .i64 o0) (.bool o1) (.int .i64 o2) (.int .u32 o3) (.slice o4.1 o4.2.1 o4.2.2) (.slice none 0 0) (.slice ba' i bc') (.int .i64 ((s i : Nat) : Int)) (.slice (some ⟨v, 0, none⟩) nn nn) (.slice (some ⟨h, 0, none⟩) nn nn)) := (HB6.out.trans (HBr.out.mono (by omega))).trans ((ten_save wr (pf + 2) (.int .i64 o0) (.bool o1) (.int .i64 o2) (.int .u32 o3) (.slice o4.1 o4.2.1 o4.2.2) (.slice none 0 0) (.slice ba' i bc') (.int .i64 ((s i : Nat) : Int)) (.slice (some ⟨v, 0, none⟩) nn nn) (.slice (some ⟨h, 0, none⟩) nn nn)).below (by omega) (by omega))
     have hii2 : IntsIn (ten wr (pf + 2) (.int .i64 o0) (.bool o1) (.int .i64 o2) (.int .u32 o3) (.slice o4.1 o4.2.1 o4.2.2) (.slice none 0 0) (.slice ba' i bc') (.int .i64 ((s i : Nat) : Int)) (.slice (some ⟨v, 0, none⟩) nn nn) (.slice (some ⟨h, 0, none⟩) nn nn)) ba' (blksP bk i) := fun k hk => by
      obtain ⟨b, o, e, hc⟩ := HII.out k hk
      obtain ⟨g, e2, hg⟩ := HGe.out k hk
      rw [e] at e2
      simp only [Option.some.injEq, Addr.mk.injEq, and_true] at e2
      exact ⟨b, o, e, cellOf hc ((ten_save wr (pf + 2) (.int .i64 o0) (.bool o1) (.int .i64 o2) (.int .u32 o3) (.slice o4.1 o4.2.1 o4.2.2) (.slice none 0 0) (.slice ba' i bc') (.int .i64 ((s i : Nat) : Int)) (.slice (some ⟨v, 0, none⟩) nn nn) (.slice (some ⟨h, 0, none⟩) nn nn)).block b (block_lt_of_cell hc) (by omega))⟩
     unfold ten at hrow hsv hii2
     generalize ((((((((((wr.setCell ⟨pf + 2, 0, none⟩ (.int .i64 o0)).setCell ⟨pf + 2, 1, none⟩ (.bool o1)).setCell ⟨pf + 2, 2, none⟩ (.int .i64 o2)).setCell ⟨pf + 2, 3, none⟩ (.int .u32 o3)).setCell ⟨pf + 2, 4, none⟩ (.slice o4.1 o4.2.1 o4.2.2)).setCell ⟨pf + 2, 5, none⟩ (.slice none 0 0)).setCell ⟨pf + 2, 6, none⟩ (.slice ba' i bc')).setCell ⟨pf + 2, 7, none⟩ (.int .i64 ((s i : Nat) : Int))).setCell ⟨pf + 2, 8, none⟩ (.slice (some ⟨v, 0, none⟩) nn nn)).setCell ⟨pf + 2, 9, none⟩ (.slice (some ⟨h, 0, none⟩) nn nn)) = W10 at *
     refine bodyPost_ret (results_ten Tryz.results27 _ W10 (pf + 2) rfl (.int .i64 o0) (.bool o1) (.int .i64 o2) (.int .u32 o3) (.slice o4.1 o4.2.1 o4.2.2) (.slice none 0 0) (.slice ba' i bc') (.int .i64 ((s i : Nat) : Int)) (.slice (some ⟨v, 0, none⟩) nn nn) (.slice (some ⟨h, 0, none⟩) nn nn) hrow) rfl ?_
     refine ⟨o0, o1, o2, o3, .slice o4.1 o4.2.1 o4.2.2, ba', bc', ((s i : Nat) : Int), .slice (some ⟨v, 0, none⟩) nn nn, .slice (some ⟨h, 0, none⟩) nn nn, rfl, hii2, ?_⟩
     rw [HPf.out]
     exact hsv
    ·obtain rfl : bv = ((bk i : Nat) : Int) := hbv.out.trans (if_neg him)
     obtain ⟨np, mm, rd, r, nx, hB, hL, hS, hlt, hnx, hf⟩ := HP.out.step i (by omega)
     have hmo := HP.out.mono (i := i + 1) (by omega) (m - (i + 1)) (by omega)
     rw [show i + 1 + (m - (i + 1)) = m by omega] at hmo
     have hsm := HP.out.sm
     have hm2 := HP.out.m2
     have hlen := HP.out.len i hi
     have HBk := Lib.hid (wBlock_any F ⟨pa, pc, sa, sc, ba, bc⟩ (pf + 3) (pf + 3) v h (blksP bk i) (L i) (s i : Nat) (bk i) np mm (frm i) rd r nx w wr HIn.out (by rw [HPf.out]; omega) (by rw [HPf.out]; exact HB6.out.trans (hbr.mono (by omega))) HSm.out hlen hlt hB (Nat.le_refl _) (by omega) (by omega) (by rw [blksP_len]; omega) hrun)
     rw [← hL, ← blksP_succ, show ((s i : Nat) : Int) + np + mm + 1 = ((s (i + 1) : Nat) : Int) by omega] at HBk
     have HNx := Lib.hid hnx; have HF := Lib.hid hf
     have hb0 : (0 : Int) ≤ ((bk i : Nat) : Int) := by omega
     clear hrun hbr hB hL hS hlt hnx hf hmo
     go_wp2_with fail
     refine HBk.out.mono ?_; rintro e w7 ⟨rfl, hr7, hb7⟩
     have HR7 := Lib.hid hr7; have HB7 := Lib.hid (HBr.out.trans hb7)
     clear hr7 hb7
     go_wp2_with fail
     go_roundg (m - (i + 1))
     case measure => omega
     case rel => exact ⟨i + 1, nx, by omega, rfl, rfl, HNx, by rw [HF.out], HR7.out, HB7.out⟩
end Go.Proofs.YtbbbflnnbbaamaaGreatDoor.PK
