/- Runs of the machine, plainly. -/
import Derived.Test.YtjfpaelmcepidaaM0
import Derived.Test.YtjfpaelmcepidaaME
namespace Go.Proofs.Ytjfpaelmcepidaa.PK
open Go.RowKit

/-- A run of so many instructions at most; n have been run before. -/
def runM (P : List (List Cd)) (fr to : Int) : Nat → Mach → Nat → List Int × Int × Nat × Bool
  | 0, s, n => (s.mem, 4, n, s.tch)
  | f + 1, s, n => match stepM s (atC (atB P s.blk) s.pc) fr to n with
    | .on s' => runM P fr to f s' (n + 1)
    | .out m e k t => (m, e, k, t)
theorem runM_on {P : List (List Cd)} {fr to : Int} {f n : Nat} {s s' : Mach} (h : stepM s (atC (atB P s.blk) s.pc) fr to n = .on s') : runM P fr to (f + 1) s n = runM P fr to f s' (n + 1) := by
  show (match stepM s (atC (atB P s.blk) s.pc) fr to n with | .on s' => _ | .out m e k t => _) = _
  rw [h]
theorem runM_out {P : List (List Cd)} {fr to : Int} {f n : Nat} {s : Mach} {m : List Int} {e : Int} {k : Nat} {t : Bool} (h : stepM s (atC (atB P s.blk) s.pc) fr to n = .out m e k t) : runM P fr to (f + 1) s n = (m, e, k, t) := by
  show (match stepM s (atC (atB P s.blk) s.pc) fr to n with | .on s' => _ | .out m e k t => _) = _
  rw [h]
/-- A machine that fits a program. -/
structure FitM (regs : Int) (P : List (List Cd)) (ml : Nat) (s : Mach) : Prop where
  rl : (s.rg.length : Int) = regs
  rw : ∀ x ∈ s.rg, isW x
  ml : s.mem.length = ml
  mb : ∀ x ∈ s.mem, isB x
  bk : s.blk < P.length
  pc : s.pc < (atB P s.blk).length
theorem getD_w {l : List Int} (h : ∀ x ∈ l, isW x) (k : Nat) : isW (l.getD k 0) := by
  rw [List.getD_eq_getElem?_getD]
  by_cases hk : k < l.length
  · rw [List.getElem?_eq_getElem hk]; exact h _ (List.getElem_mem hk)
  · rw [List.getElem?_eq_none (by omega)]; exact zero_w
theorem opA_w {regs : Int} {P : List (List Cd)} {ml : Nat} {s : Mach} (h : FitM regs P ml s) (x : Cd) : isW (opA s x) := by
  unfold opA; exact ite_w (getD_w h.rw _) zero_w
theorem opB_w {regs : Int} {P : List (List Cd)} {ml : Nat} {s : Mach} (h : FitM regs P ml s) (x : Cd) : isW (opB s x) := by
  unfold opB; exact ite_w (getD_w h.rw _) zero_w
theorem set_w {l : List Int} {v : Int} (h : ∀ x ∈ l, isW x) (hv : isW v) (k : Nat) : ∀ x ∈ l.set k v, isW x := fun x hx => by
  rcases List.mem_or_eq_of_mem_set hx with h1 | rfl
  · exact h x h1
  · exact hv
theorem FitM.next {regs : Int} {P : List (List Cd)} {ml : Nat} {s : Mach} (h : FitM regs P ml s) (hnl : isLastB (atC (atB P s.blk) s.pc).op = decide ((s.pc : Int) = (atB P s.blk).length - 1)) (hn : isLastB (atC (atB P s.blk) s.pc).op = false) : s.pc + 1 < (atB P s.blk).length := by
  have := h.pc
  rw [hn] at hnl
  have := of_decide_eq_false hnl.symm
  omega
/-- One more of its registers is written. -/
theorem FitM.put {regs : Int} {P : List (List Cd)} {ml : Nat} {s : Mach} (h : FitM regs P ml s) (hp : s.pc + 1 < (atB P s.blk).length) (d : Int) {v : Int} (hv : isW v) : FitM regs P ml (putR s d v) :=
  ⟨by show ((s.rg.set _ _).length : Int) = _; rw [List.length_set]; exact h.rl, set_w h.rw hv _, h.ml, h.mb, h.bk, hp⟩
def encW (l : List Int) : List Value := l.map fun x => .int .u32 x
theorem encW_get {l : List Int} {k : Nat} (h : k < l.length) : (encW l)[k]? = some (.int .u32 (l.getD k 0)) := by
  simp [encW, List.getD_eq_getElem?_getD, h]
theorem encW_set (l : List Int) (k : Nat) (x : Int) : encW (l.set k x) = (encW l).set k (.int .u32 x) := by simp [encW]
/-- A block that is a row of words. -/
def URow (w : World) (q : Nat) (l : List Int) : Prop := w.heap[q]? = some (.cells (encW l).toArray 65 (0, 0))
theorem URow.cell {w : World} {q : Nat} {l : List Int} (h : URow w q l) {k : Nat} (hk : k < l.length) : w.cell? ⟨q, k, none⟩ = some (.int .u32 (l.getD k 0)) := by
  rw [cell_of_row w q k _ _ _ h]
  simpa using encW_get hk
theorem URow.free {w : World} {q : Nat} {l : List Int} (h : URow w q l) (k : Nat) : w.frozen? ⟨q, k, none⟩ = false := frozen_of_row w q k _ _ h
theorem URow.lt {w : World} {q : Nat} {l : List Int} (h : URow w q l) : q < w.heap.size := lt_of_block h
theorem URow.set {w : World} {q : Nat} {l : List Int} (h : URow w q l) (k : Nat) (x : Int) : URow (w.setCell ⟨q, k, none⟩ (.int .u32 x)) q (l.set k x) := by
  unfold URow
  rw [heap_setCell_same w q k _ _ _ h, encW_set]
  congr 2
  apply Array.ext'
  simp
theorem URow.below {w w' : World} {q : Nat} {l : List Int} (h : URow w q l) (hb : Below w.heap.size w w') : URow w' q l := by
  unfold URow; rw [hb.block q h.lt]; exact h
theorem URow.save {w w' : World} {p q : Nat} {l : List Int} (h : URow w q l) (hs : Save p w w') (hne : q ≠ p) : URow w' q l := by
  unfold URow; rw [hs.block q h.lt hne]; exact h
theorem urow_made (w : World) (n : Nat) : URow (w.alloc (.cells (madeCells #[.int .u32 0] n) 65)) w.heap.size (List.replicate n 0) := by
  unfold URow
  have e : (encW (List.replicate n 0)).toArray = madeCells #[.int .u32 0] n := by
    rw [valArr_made]
    unfold encW valArr
    apply Array.ext
    · simp
    · intro i h1 h2; simp
  rw [e]
  exact heap_at _ _ _ rfl
/-- How a run answers: its memory in new cells. -/
def WatchPost (r : List Int × Int × Nat × Bool) (w : World) (e : Ending) (w' : World) : Prop :=
  (∃ g cap, e = .returned (.tuple #[.slice (some ⟨g, 0, none⟩) r.1.length cap, .int .i64 r.2.1, .int .i64 r.2.2.1, .bool r.2.2.2, .int .i64 0]) ∧ w'.ownsRow w.heap.size 5 1 (.slice (some ⟨g, 0, none⟩) r.1.length cap) r.1.length (encB r.1)) ∧ Below w.heap.size w w'
end Go.Proofs.Ytjfpaelmcepidaa.PK
