/- Lists of lists of numbers: how one lies in memory, and how it lies while it is made. -/
import Derived.Test.YtjfpaelmcepidaaKD
namespace Go.Proofs.Ytjfpaelmcepidaa.PK
open Go.RowKit

/-- The cells of a slice are slices of these numbers. -/
def RowsIn (w : World) (a : Option Addr) (g : List (List Int)) : Prop :=
  ∀ k, k < g.length → ∃ b off a' cap, a = some ⟨b, off, none⟩ ∧ w.cell? ⟨b, off + k, none⟩ = some (.slice a' (g.getD k []).length cap) ∧ IntsIn w a' (g.getD k [])
theorem RowsIn.below {w w' : World} {a : Option Addr} {g : List (List Int)} (h : RowsIn w a g) (hb : Below w.heap.size w w') : RowsIn w' a g := fun k hk => by
  obtain ⟨b, off, a', cap, rfl, hc, hi⟩ := h k hk
  exact ⟨b, off, a', cap, rfl, keep hc hb, hi.below hb⟩
structure Save (q : Nat) (w w' : World) : Prop where
  os : w'.os = w.os
  tape : w'.tape = w.tape
  output : w'.output = w.output
  size : w.heap.size ≤ w'.heap.size
  block : ∀ k, k < w.heap.size → k ≠ q → w'.heap[k]? = w.heap[k]?
theorem Save.refl (q : Nat) (w : World) : Save q w w := ⟨rfl, rfl, rfl, Nat.le_refl _, fun _ _ _ => rfl⟩
theorem Save.trans {q : Nat} {a b c : World} (h : Save q a b) (k : Save q b c) : Save q a c :=
  ⟨k.os.trans h.os, k.tape.trans h.tape, k.output.trans h.output, Nat.le_trans h.size k.size, fun i hi hq => (k.block i (Nat.lt_of_lt_of_le hi h.size) hq).trans (h.block i hi hq)⟩
theorem Save.of_below {q : Nat} {w w' : World} (h : Below w.heap.size w w') : Save q w w' := ⟨h.os, h.tape, h.output, h.size, fun k hk _ => h.block k hk⟩
theorem Save.set (q v : Nat) (w : World) (x : Value) : Save q w (w.setCell ⟨q, v, none⟩ x) :=
  ⟨rfl, rfl, rfl, by simp [World.setCell], fun k _ hk => Below.heap_setCell _ _ _ _ hk⟩
theorem Save.below {q : Nat} {w w' : World} (h : Save q w w') {B : Nat} (hq : B ≤ q) (hB : B ≤ w.heap.size) : Below B w w' :=
  ⟨h.os, h.tape, h.output, h.size, fun k hk => h.block k (by omega) (by omega)⟩
theorem Save.cell {q : Nat} {w w' : World} (h : Save q w w') {b k : Nat} {v : Value} (hb : b ≠ q) (hc : w.cell? ⟨b, k, none⟩ = some v) : w'.cell? ⟨b, k, none⟩ = some v := by
  rw [World.cell?_of_block (w := w) (h.block b (block_lt_of_cell hc) hb)]; exact hc
def valArr (n : Nat) (f : Nat → Value) : Array Value := (Array.range n).map f
theorem valArr_size (n : Nat) (f : Nat → Value) : (valArr n f).size = n := by simp [valArr]
theorem valArr_get (n : Nat) (f : Nat → Value) (k : Nat) (h : k < n) : (valArr n f)[k]? = some (f k) := by
  simp [valArr, h]
def upd (f : Nat → Value) (v : Nat) (x : Value) : Nat → Value := fun j => if j = v then x else f j
theorem upd_at (f : Nat → Value) (v : Nat) (x : Value) : upd f v x v = x := if_pos rfl
theorem upd_ne {f : Nat → Value} {v j : Nat} {x : Value} (h : j ≠ v) : upd f v x j = f j := if_neg h
theorem upd_upd (f : Nat → Value) (v : Nat) (x y : Value) : upd (upd f v x) v y = upd f v y := by
  funext j
  unfold upd
  split <;> rfl
theorem upd_same {f : Nat → Value} {v : Nat} {x : Value} (h : f v = x) : upd f v x = f := by
  funext j
  unfold upd
  split
  · rename_i e; rw [e, h]
  · rfl
theorem valArr_set (n : Nat) (f : Nat → Value) (v : Nat) (x : Value) : (valArr n f).setIfInBounds v x = valArr n (upd f v x) := by
  apply Array.ext
  · simp [valArr]
  · intro i h1 h2
    have hi : i < n := by simpa [valArr] using h2
    rw [Array.getElem_setIfInBounds (by simpa [valArr] using hi)]
    by_cases c : v = i
    · subst c; simp [valArr, upd]
    · have c' : ¬ i = v := fun e => c e.symm
      simp [valArr, upd, c, c']
theorem valArr_made (n : Nat) (x : Value) : madeCells #[x] n = valArr n (fun _ => x) := by
  unfold madeCells valArr
  congr 1
  funext j
  simp [Nat.mod_one]
/-- A block that is a row of n values. -/
def VRow (w : World) (q n : Nat) (f : Nat → Value) : Prop := w.heap[q]? = some (.cells (valArr n f) 43 (0, 0))
theorem VRow.cell {w : World} {q n : Nat} {f : Nat → Value} (h : VRow w q n f) {k : Nat} (hk : k < n) : w.cell? ⟨q, k, none⟩ = some (f k) := by
  rw [cell_of_row w q k _ _ _ h]; exact valArr_get n f k hk
theorem VRow.free {w : World} {q n : Nat} {f : Nat → Value} (h : VRow w q n f) (k : Nat) : w.frozen? ⟨q, k, none⟩ = false := frozen_of_row w q k _ _ h
theorem VRow.lt {w : World} {q n : Nat} {f : Nat → Value} (h : VRow w q n f) : q < w.heap.size := lt_of_block h
theorem VRow.set {w : World} {q n : Nat} {f : Nat → Value} (h : VRow w q n f) (v : Nat) (x : Value) : VRow (w.setCell ⟨q, v, none⟩ x) q n (upd f v x) := by
  unfold VRow
  rw [heap_setCell_same w q v _ _ _ h, valArr_set n f v x]
theorem VRow.below {w w' : World} {q n : Nat} {f : Nat → Value} (h : VRow w q n f) {B : Nat} (hb : Below B w w') (hq : q < B) : VRow w' q n f := by
  unfold VRow; rw [hb.block q hq]; exact h
theorem VRow.alloc {w : World} {q n : Nat} {f : Nat → Value} (h : VRow w q n f) (o : Obj) : VRow (w.alloc o) q n f := by
  unfold VRow; rw [heap_past _ _ _ h.lt]; exact h
theorem VRow.grown {w w' : World} {q n : Nat} {f : Nat → Value} {row : Option Nat} (h : VRow w q n f) (hg : w.grownBy w' row) (hr : ∀ k, row = some k → q < k) : VRow w' q n f := by
  unfold VRow; rw [hg.block q h.lt (fun e => by have := hr q e.symm; omega)]; exact h
theorem infoRowI : (Try.prog.info? 43).map (fun i => (i.zero, i.size, i.bytes)) = some (some (.slice none 0 0), 1, 24) := by kernel_rfl

/-- A made row that does not lie in the block q. -/
def RowAt (w : World) (q : Nat) (v : Value) (xs : List Int) : Prop := ∃ a cap, v = .slice a xs.length cap ∧ IntsIn w a xs ∧ ∀ b off, a = some ⟨b, off, none⟩ → b ≠ q
theorem RowAt.save {w w' : World} {q : Nat} {v : Value} {xs : List Int} (h : RowAt w q v xs) (hs : Save q w w') : RowAt w' q v xs := by
  obtain ⟨a, cap, rfl, hi, hne⟩ := h
  refine ⟨a, cap, rfl, fun k hk => ?_, hne⟩
  obtain ⟨b, off, rfl, hc⟩ := hi k hk
  exact ⟨b, off, rfl, hs.cell (hne b off rfl) hc⟩
theorem rowAt_owns {w : World} {base q : Nat} {e : TypeId} {v : Value} {xs : List Int} (h : w.ownsRow base e 1 v xs.length (encI xs)) (hq : q < base) : RowAt w q v xs := by
  obtain ⟨_, h | ⟨g, cap, cur, rfl, hb, hg, hnc, hm, hcs, ht⟩⟩ := h
  · obtain ⟨rfl, h0⟩ := h
    have : xs = [] := List.length_eq_zero_iff.1 h0
    subst this
    exact ⟨none, 0, rfl, fun k hk => absurd hk (Nat.not_lt_zero _), fun b off e => by cases e⟩
  · refine ⟨_, cap, rfl, fun k hk => ⟨g, 0, rfl, ?_⟩, fun b off e => ?_⟩
    · rw [Nat.zero_add, cell_of_row w g k _ _ _ hg]
      have : (encI xs)[k]? = some (.int .i64 (xs.getD k 0)) := by
        simp [encI, List.getElem?_eq_getElem hk, List.getD_eq_getElem?_getD]
      rw [← ht, List.getElem?_take, if_pos (by omega)] at this
      simpa using this
    · simp only [Option.some.injEq, Addr.mk.injEq, and_true] at e
      omega
def RowsSl (w : World) (v : Value) (L : List (List Int)) : Prop := ∃ a cap, v = .slice a L.length cap ∧ RowsIn w a L
theorem RowsSl.nil (w : World) : RowsSl w (.slice none 0 0) [] := ⟨none, 0, rfl, fun _ hk => absurd hk (Nat.not_lt_zero _)⟩
theorem rowsSl_made {w : World} {q n : Nat} {f : Nat → Value} {R : Nat → List Int} (h : VRow w q n f) (hr : ∀ j, j < n → RowAt w q (f j) (R j)) : RowsSl w (.slice (some ⟨q, 0, none⟩) n n) ((List.range n).map R) := by
  have hl : ((List.range n).map R).length = n := by simp
  refine ⟨some ⟨q, 0, none⟩, n, by rw [hl], fun k hk => ?_⟩
  rw [hl] at hk
  have eg : ((List.range n).map R).getD k [] = R k := by simp [List.getD_eq_getElem?_getD, hk]
  rw [eg]
  obtain ⟨a, cap, e, hi, _⟩ := hr k hk
  have hc := h.cell hk
  rw [e] at hc
  exact ⟨q, 0, a, cap, rfl, by rw [Nat.zero_add]; exact hc, hi⟩
theorem save_grown {q : Nat} {a b w3 : World} {row : Option Nat} {o : Obj} (h : Save q a b) (hg : (b.alloc o).grownBy w3 row) (hr : ∀ k, row = some k → a.heap.size ≤ k) : Save q a w3 := by
  refine ⟨hg.os.trans h.os, hg.tape.trans h.tape, hg.output.trans h.output, Nat.le_trans h.size (Nat.le_trans (by simp) hg.size), fun k hk hq => ?_⟩
  have hkb : k < b.heap.size := Nat.lt_of_lt_of_le hk h.size
  rw [hg.block k (by simp; omega) (fun e => by have := hr k e.symm; omega), heap_past _ _ _ hkb]
  exact h.block k hk hq
end Go.Proofs.Ytjfpaelmcepidaa.PK
