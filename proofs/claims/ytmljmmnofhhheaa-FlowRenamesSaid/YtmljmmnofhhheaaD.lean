/- How data lie in memory: slices of numbers, graphs, arrays of ten bools; what keeps them. -/
import Derived.Test.YtmljmmnofhhheaaProg
import Derived.Test.YtmljmmnofhhheaaM
import Derived.WalkKit
import Derived.WalkSpells
import Derived.WalkLawsBesides
import Derived.BigQuiet
import Derived.Deep.QuietTactic
import Derived.Lib.Hide
import Derived.Laws.EntriesVeiled
import Derived.Laws.Rows
import Derived.OneCell
namespace Go.Proofs.Ytmljmmnofhhheaa
open Go.RowKit

theorem ret_bool {a b : Bool} (h : a = b) : Ending.returned (.bool a) = .returned (.bool b) := by rw [h]
theorem ret_int {k : IntKind} {a b : Int} (h : a = b) : Ending.returned (.int k a) = .returned (.int k b) := by rw [h]
theorem ret_pair {k : IntKind} {a b : Int} {v : Value} (h : a = b) : Ending.returned (.tuple #[.int k a, v]) = .returned (.tuple #[.int k b, v]) := by rw [h]
theorem bc {W w1 : World} (hb : Below W.heap.size W w1) {b : Nat} (h : b < W.heap.size) : ∀ j, w1.cell? ⟨b, j, none⟩ = W.cell? ⟨b, j, none⟩ :=
  fun j => hb.cell (p := ⟨b, j, none⟩) h

/-- The cells of a slice are these numbers. -/
def IntsIn (w : World) (a : Option Addr) (xs : List Int) : Prop :=
  ∀ k, k < xs.length → ∃ b off, a = some ⟨b, off, none⟩ ∧ w.cell? ⟨b, off + k, none⟩ = some (.int .i64 (xs.getD k 0))
def NatsIn (w : World) (a : Option Addr) (xs : List Nat) : Prop :=
  ∀ k, k < xs.length → ∃ b off, a = some ⟨b, off, none⟩ ∧ w.cell? ⟨b, off + k, none⟩ = some (.int .i64 (xs.getD k 0 : Nat))
/-- The cells of a slice are slices of these numbers. -/
def RowsIn (w : World) (a : Option Addr) (g : List (List Int)) : Prop :=
  ∀ k, k < g.length → ∃ b off a' cap, a = some ⟨b, off, none⟩ ∧ w.cell? ⟨b, off + k, none⟩ = some (.slice a' (g.getD k []).length cap) ∧ IntsIn w a' (g.getD k [])
def GraphIn (w : World) (a : Option Addr) (g : Gr) : Prop :=
  ∀ k, k < g.length → ∃ b off a' cap, a = some ⟨b, off, none⟩ ∧ w.cell? ⟨b, off + k, none⟩ = some (.slice a' (succ g k).length cap) ∧ NatsIn w a' (succ g k)
theorem keep {w w' : World} {b off : Nat} {v : Value} (h : w.cell? ⟨b, off, none⟩ = some v) (hb : Below w.heap.size w w') : w'.cell? ⟨b, off, none⟩ = some v := by
  rw [hb.cell (p := ⟨b, off, none⟩) (block_lt_of_cell h)]; exact h
theorem IntsIn.below {w w' : World} {a : Option Addr} {xs : List Int} (h : IntsIn w a xs) (hb : Below w.heap.size w w') : IntsIn w' a xs := fun k hk => by
  obtain ⟨b, off, rfl, hc⟩ := h k hk
  exact ⟨b, off, rfl, keep hc hb⟩
theorem NatsIn.below {w w' : World} {a : Option Addr} {xs : List Nat} (h : NatsIn w a xs) (hb : Below w.heap.size w w') : NatsIn w' a xs := fun k hk => by
  obtain ⟨b, off, rfl, hc⟩ := h k hk
  exact ⟨b, off, rfl, keep hc hb⟩
theorem RowsIn.below {w w' : World} {a : Option Addr} {g : List (List Int)} (h : RowsIn w a g) (hb : Below w.heap.size w w') : RowsIn w' a g := fun k hk => by
  obtain ⟨b, off, a', cap, rfl, hc, hi⟩ := h k hk
  exact ⟨b, off, a', cap, rfl, keep hc hb, hi.below hb⟩
theorem GraphIn.below {w w' : World} {a : Option Addr} {g : Gr} (h : GraphIn w a g) (hb : Below w.heap.size w w') : GraphIn w' a g := fun k hk => by
  obtain ⟨b, off, a', cap, rfl, hc, hi⟩ := h k hk
  exact ⟨b, off, a', cap, rfl, keep hc hb, hi.below hb⟩

theorem heap_at (w : World) (o : Obj) (n : Nat) (h : n = w.heap.size) : (w.alloc o).heap[n]? = some o := by subst h; exact heap_alloc_new w o
theorem heap_past (w : World) (o : Obj) (n : Nat) (h : n < w.heap.size) : (w.alloc o).heap[n]? = w.heap[n]? := Below.heap_alloc w o n h
/-- Ten bools as they lie in an array. -/
def bools (S : NSet) : Array Value := #[.bool (S 0), .bool (S 1), .bool (S 2), .bool (S 3), .bool (S 4), .bool (S 5), .bool (S 6), .bool (S 7), .bool (S 8), .bool (S 9)]
theorem bools_get (S : NSet) (k : Nat) (h : k < 10) : (bools S)[k]? = some (.bool (S k)) := by
  have : k = 0 ∨ k = 1 ∨ k = 2 ∨ k = 3 ∨ k = 4 ∨ k = 5 ∨ k = 6 ∨ k = 7 ∨ k = 8 ∨ k = 9 := by omega
  rcases this with rfl | rfl | rfl | rfl | rfl | rfl | rfl | rfl | rfl | rfl <;> rfl
theorem bools_set (S : NSet) (v : Nat) (b : Bool) (h : v < 10) : (bools S).setIfInBounds v (.bool b) = bools (fun j => if j = v then b else S j) := by
  have : v = 0 ∨ v = 1 ∨ v = 2 ∨ v = 3 ∨ v = 4 ∨ v = 5 ∨ v = 6 ∨ v = 7 ∨ v = 8 ∨ v = 9 := by omega
  rcases this with rfl | rfl | rfl | rfl | rfl | rfl | rfl | rfl | rfl | rfl <;> rfl
theorem bools_mark (S : NSet) (v : Nat) (h : v < 10) : (bools S).setIfInBounds v (.bool true) = bools (mark S v) := by
  rw [bools_set S v true h]
  congr 1
  funext j
  unfold mark
  by_cases c : j = v
  · simp [c]
  · simp [c]
/-- A block that is an array of ten bools. -/
def Ten (w : World) (q : Nat) (S : NSet) : Prop := w.heap[q]? = some (.cells (bools S) 54 (0, 0))
theorem Ten.cell {w : World} {q : Nat} {S : NSet} (h : Ten w q S) {k : Nat} (hk : k < 10) : w.cell? ⟨q, k, none⟩ = some (.bool (S k)) := by
  rw [cell_of_row w q k _ _ _ h]; exact bools_get S k hk
theorem Ten.free {w : World} {q : Nat} {S : NSet} (h : Ten w q S) (k : Nat) : w.frozen? ⟨q, k, none⟩ = false := frozen_of_row w q k _ _ h
theorem Ten.lt {w : World} {q : Nat} {S : NSet} (h : Ten w q S) : q < w.heap.size := lt_of_block h
theorem Ten.set {w : World} {q : Nat} {S : NSet} (h : Ten w q S) {v : Nat} (hv : v < 10) (b : Bool) : Ten (w.setCell ⟨q, v, none⟩ (.bool b)) q (fun j => if j = v then b else S j) := by
  unfold Ten
  rw [heap_setCell_same w q v _ _ _ h, bools_set S v b hv]
theorem Ten.mark {w : World} {q : Nat} {S : NSet} (h : Ten w q S) {v : Nat} (hv : v < 10) : Ten (w.setCell ⟨q, v, none⟩ (.bool true)) q (mark S v) := by
  unfold Ten
  rw [heap_setCell_same w q v _ _ _ h, bools_mark S v hv]
theorem Ten.below {w w' : World} {q : Nat} {S : NSet} (h : Ten w q S) (hb : Below w.heap.size w w') : Ten w' q S := by
  unfold Ten; rw [hb.block q h.lt]; exact h

/-- Nothing but one block has changed, and no block is new. -/
structure Touch (q : Nat) (w w' : World) : Prop where
  os : w'.os = w.os
  tape : w'.tape = w.tape
  output : w'.output = w.output
  size : w'.heap.size = w.heap.size
  block : ∀ k, k ≠ q → w'.heap[k]? = w.heap[k]?
theorem Touch.refl (q : Nat) (w : World) : Touch q w w := ⟨rfl, rfl, rfl, rfl, fun _ _ => rfl⟩
theorem Touch.trans {q : Nat} {a b c : World} (h : Touch q a b) (k : Touch q b c) : Touch q a c :=
  ⟨k.os.trans h.os, k.tape.trans h.tape, k.output.trans h.output, k.size.trans h.size, fun i hi => (k.block i hi).trans (h.block i hi)⟩
theorem Touch.set (w : World) (q v : Nat) (x : Value) : Touch q w (w.setCell ⟨q, v, none⟩ x) :=
  ⟨rfl, rfl, rfl, by simp [World.setCell], fun k hk => Below.heap_setCell _ _ _ _ hk⟩
theorem Touch.cell {q : Nat} {w w' : World} (h : Touch q w w') {b : Nat} (hb : b ≠ q) (k : Nat) : w'.cell? ⟨b, k, none⟩ = w.cell? ⟨b, k, none⟩ :=
  World.cell?_of_block (w := w) (h.block b hb)
theorem Touch.frozen {q : Nat} {w w' : World} (h : Touch q w w') {b : Nat} (hb : b ≠ q) (k : Nat) : w'.frozen? ⟨b, k, none⟩ = w.frozen? ⟨b, k, none⟩ :=
  World.frozen?_of_block (w := w) (h.block b hb)
theorem Touch.below {q : Nat} {w w' : World} (h : Touch q w w') {B : Nat} (hq : B ≤ q) : Below B w w' :=
  ⟨h.os, h.tape, h.output, by rw [h.size]; exact Nat.le_refl _, fun k hk => h.block k (by omega)⟩
/-- Ten bools as a value. -/
def tenV (S : NSet) : Value := .agg (bools S)
theorem results_ten {fn : Func} {p : Tmp} (h : fn.results = #[.cell p 54]) (tmps : Array Value) (w : World) (q : Nat) (S : NSet)
    (hp : tmps.getD p undef = .pointer (some ⟨q, 0, none⟩)) (T : Ten w q S) : (results fn tmps).run Try.prog w = .ok (tenV S) w :=
  results_cell_row h tmps w q _ _ _ _ hp T Try.underlying54 rfl (by kernel_rfl)
/-- All ten written, one behind the other. -/
def fill (w : World) (q : Nat) (S : NSet) : World :=
  (((((((((w.setCell ⟨q, 0, none⟩ (.bool (S 0))).setCell ⟨q, 1, none⟩ (.bool (S 1))).setCell ⟨q, 2, none⟩ (.bool (S 2))).setCell ⟨q, 3, none⟩ (.bool (S 3))).setCell ⟨q, 4, none⟩ (.bool (S 4))).setCell
    ⟨q, 5, none⟩ (.bool (S 5))).setCell ⟨q, 6, none⟩ (.bool (S 6))).setCell ⟨q, 7, none⟩ (.bool (S 7))).setCell ⟨q, 8, none⟩ (.bool (S 8))).setCell ⟨q, 9, none⟩ (.bool (S 9))
theorem Ten.fill {w : World} {q : Nat} {S0 : NSet} (h : Ten w q S0) (S : NSet) : Ten (fill w q S) q S := by
  have h1 := (((((((((h.set (v := 0) (by decide) (S 0)).set (v := 1) (by decide) (S 1)).set (v := 2) (by decide) (S 2)).set (v := 3) (by decide) (S 3)).set (v := 4) (by decide) (S 4)).set
    (v := 5) (by decide) (S 5)).set (v := 6) (by decide) (S 6)).set (v := 7) (by decide) (S 7)).set (v := 8) (by decide) (S 8)).set (v := 9) (by decide) (S 9)
  exact h1
theorem Touch.fill (w : World) (q : Nat) (S : NSet) : Touch q w (fill w q S) := by
  unfold Proofs.Ytmljmmnofhhheaa.fill
  exact (((((((((Touch.set w q 0 _).trans (Touch.set _ q 1 _)).trans (Touch.set _ q 2 _)).trans (Touch.set _ q 3 _)).trans (Touch.set _ q 4 _)).trans (Touch.set _ q 5 _)).trans (Touch.set _ q 6 _)).trans (Touch.set _ q 7 _)).trans (Touch.set _ q 8 _)).trans (Touch.set _ q 9 _)
end Go.Proofs.Ytmljmmnofhhheaa
