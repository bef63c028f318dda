/- How numbers lie in memory; rows of a call's own; a struct of rows whose blocks bear marks. -/
import Derived.Test.YtahaoddilejpnaaP0
import Derived.Test.YtahaoddilejpnaaProg
import Derived.WalkKit
import Derived.WalkSpells
import Derived.WalkLawsBesides
import Derived.BigQuiet
import Derived.Deep.QuietTactic
import Derived.Lib.Hide
import Derived.Lib.SliceRun
import Derived.Laws.EntriesVeiled
import Derived.Laws.Rows
import Derived.OneCell
import Derived.Shelf.Abstract
import Derived.Maps.AppendAt
namespace Go.Proofs.Ytahaoddilejpnaa
open Go.RowKit

theorem ret_bool {a b : Bool} (h : a = b) : Ending.returned (.bool a) = .returned (.bool b) := by rw [h]
theorem ret_int {k : IntKind} {a b : Int} (h : a = b) : Ending.returned (.int k a) = .returned (.int k b) := by rw [h]
theorem keep {w w' : World} {b off : Nat} {v : Value} (h : w.cell? ⟨b, off, none⟩ = some v) (hb : Below w.heap.size w w') : w'.cell? ⟨b, off, none⟩ = some v := by
  rw [hb.cell (p := ⟨b, off, none⟩) (block_lt_of_cell h)]; exact h
theorem below_drew1 {B : Nat} {w w' : World} (h : Below B w w') : Below B w w'.drew := ⟨h.os, h.tape, h.output, h.size, h.block⟩
theorem heap_at (w : World) (o : Obj) (n : Nat) (h : n = w.heap.size) : (w.alloc o).heap[n]? = some o := by subst h; exact heap_alloc_new w o
theorem heap_past (w : World) (o : Obj) (n : Nat) (h : n < w.heap.size) : (w.alloc o).heap[n]? = w.heap[n]? := Below.heap_alloc w o n h
theorem addr_zero (b j : Nat) : (⟨b, 0, none⟩ : Addr).add j = ⟨b, j, none⟩ := by unfold Addr.add; simp; intro h; omega
theorem cell_one_at (w : World) (x : Value) (t : TypeId) : ∀ j u, [x][j]? = some u → (w.alloc (.cells #[x] t)).cell? ((⟨w.heap.size, 0, none⟩ : Addr).add j) = some u := by
  intro j u hj
  rw [addr_zero, World.cell?_alloc_at _ _ _ _ rfl]
  match j, hj with
  | 0, hj => simpa using hj
theorem one_int (k : Int) : ∀ u ∈ [Value.int .i64 k], u.oneCell' = true := by simp [Value.oneCell']
theorem cell_same {w w' : World} {b off : Nat} {v : Value} (h : w.cell? ⟨b, off, none⟩ = some v) (e : w'.heap[b]? = w.heap[b]?) : w'.cell? ⟨b, off, none⟩ = some v := by
  rw [World.cell?_of_block (a := ⟨b, off, none⟩) e]; exact h

/-! ### Rows of the call's own -/
theorem owns_shape {w : World} {base : Nat} {e : TypeId} {s n : Nat} {v : Value} {xs : List Value} (h : w.ownsRow base e s v n xs) : ∃ a cap, v = .slice a n cap := by
  obtain ⟨_, ⟨rfl, rfl⟩ | ⟨g, cap, cur, rfl, _⟩⟩ := h
  · exact ⟨none, 0, rfl⟩
  · exact ⟨_, cap, rfl⟩
theorem owns_lt {w : World} {base : Nat} {e : TypeId} {s n : Nat} {v : Value} {xs : List Value} (h : w.ownsRow base e s v n xs) {g : Nat} (hg : v.ownBlock = some g) : base ≤ g ∧ g < w.heap.size := by
  obtain ⟨_, ⟨rfl, rfl⟩ | ⟨g', cap, cur, rfl, hb, hc, _⟩⟩ := h
  · cases hg
  · simp only [Value.ownBlock, Option.some.injEq] at hg
    subst hg
    exact ⟨hb, lt_of_block hc⟩
theorem owns_of_block {w w' : World} {base : Nat} {e : TypeId} {s n : Nat} {v : Value} {xs : List Value} (h : w.ownsRow base e s v n xs) (hb : ∀ g, g < w.heap.size → v.ownBlock = some g → w'.heap[g]? = w.heap[g]?) : w'.ownsRow base e s v n xs := by
  refine ⟨h.1, ?_⟩
  rcases h.2 with h1 | ⟨g, cap, cur, e, hg, hc, r⟩
  · exact .inl h1
  · exact .inr ⟨g, cap, cur, e, hg, (hb g (lt_of_block hc) (by rw [e]; rfl)).trans hc, r⟩
theorem owns_below {w w' : World} {base : Nat} {e : TypeId} {s n : Nat} {v : Value} {xs : List Value} (h : w.ownsRow base e s v n xs) (hb : Below w.heap.size w w') : w'.ownsRow base e s v n xs := owns_of_block h fun g h2 _ => hb.block g h2
theorem owns_base {w : World} {B B' : Nat} {e : TypeId} {s n : Nat} {v : Value} {xs : List Value} (h : w.ownsRow B e s v n xs) (hb : B' ≤ B) : w.ownsRow B' e s v n xs := by
  refine ⟨h.1, ?_⟩
  rcases h.2 with h1 | ⟨g, cap, cur, e, hg, r⟩
  · exact .inl h1
  · exact .inr ⟨g, cap, cur, e, Nat.le_trans hb hg, r⟩
theorem owns_set {w : World} {B g n c s : Nat} {e : TypeId} {xs : List Value} (h : w.ownsRow B e s (.slice (some ⟨g, 0, none⟩) n c) n xs) (j : Nat) (x : Value) : (w.setCell ⟨g, j, none⟩ x).ownsRow B e s (.slice (some ⟨g, 0, none⟩) n c) n (xs.set j x) := by
  obtain ⟨hl, ⟨e0, _⟩ | ⟨g', cap, cur, e0, hb, hg, hnc, hm, hcs, ht⟩⟩ := h
  · cases e0
  · simp only [Value.slice.injEq, Option.some.injEq, Addr.mk.injEq, and_true, true_and] at e0
    obtain ⟨rfl, rfl⟩ := e0
    exact ⟨by simpa using hl, .inr ⟨g, c, cur.setIfInBounds j x, rfl, hb, heap_setCell_same w g _ _ _ _ hg, hnc, hm, by simpa using hcs, by rw [Array.toList_setIfInBounds, List.take_set, ht]⟩⟩
/-- The first elements of an own row. -/
theorem owns_take {w : World} {B g n c : Nat} {e : TypeId} {xs : List Value} (h : w.ownsRow B e 1 (.slice (some ⟨g, 0, none⟩) n c) n xs) {m : Nat} (hm : m ≤ n) : w.ownsRow B e 1 (.slice (some ⟨g, 0, none⟩) m c) m (xs.take m) := by
  obtain ⟨hl, ⟨e0, _⟩ | ⟨g', cap, cur, e0, hb, hg, hnc, hmx, hcs, ht⟩⟩ := h
  · cases e0
  · simp only [Value.slice.injEq, Option.some.injEq, Addr.mk.injEq, and_true, true_and] at e0
    obtain ⟨rfl, rfl⟩ := e0
    refine ⟨by rw [List.length_take, hl]; omega, .inr ⟨g, c, cur, rfl, hb, hg, by omega, hmx, hcs, ?_⟩⟩
    rw [← ht, List.take_take, Nat.mul_one, Nat.mul_one, Nat.min_eq_left hm]
theorem owns_nil (w : World) (B : Nat) (e : TypeId) (s : Nat) : w.ownsRow B e s (.slice none 0 0) 0 [] := ⟨by simp, .inl ⟨rfl, rfl⟩⟩
/-- The cells of an own row. -/
theorem owns_cells {w : World} {B : Nat} {e : TypeId} {s n : Nat} {v : Value} {xs : List Value} (h : w.ownsRow B e s v n xs) (hn : 0 < n) : ∃ g cap, v = .slice (some ⟨g, 0, none⟩) n cap ∧ n ≤ cap ∧ cap ≤ maxLen ∧ B ≤ g ∧ g < w.heap.size ∧ (∀ j u, xs[j]? = some u → w.cell? ⟨g, j, none⟩ = some u) ∧ ∀ j, w.frozen? ⟨g, j, none⟩ = false := by
  obtain ⟨hl, ⟨_, h0⟩ | ⟨g, cap, cur, rfl, hb, hg, hnc, hm, hcs, ht⟩⟩ := h
  · omega
  · refine ⟨g, cap, rfl, hnc, hm, hb, lt_of_block hg, fun j u hj => ?_, fun j => frozen_of_row w g j _ _ hg⟩
    rw [cell_of_row w g j _ _ _ hg]
    have hj2 : j < n * s := by rw [← hl]; exact (List.getElem?_eq_some_iff.1 hj).1
    rw [← ht, List.getElem?_take, if_pos hj2] at hj
    simpa using hj

/-! ### Numbers -/
theorem Try.infoInt : (Try.prog.info? 3).map (fun i => (i.zero, i.size, i.bytes)) = some (some (.int .i64 0), 1, 8) := by kernel_rfl
theorem Try.infoRow : (Try.prog.info? 40).map (fun i => (i.zero, i.size, i.bytes)) = some (some (.slice none 0 0), 1, 24) := by kernel_rfl
/-- The cells of a slice are these numbers. -/
def IntsIn (w : World) (a : Option Addr) (xs : List Int) : Prop :=
  ∀ k, k < xs.length → ∃ b off, a = some ⟨b, off, none⟩ ∧ w.cell? ⟨b, off + k, none⟩ = some (.int .i64 (xs.getD k 0))
theorem IntsIn.below {w w' : World} {a : Option Addr} {xs : List Int} (h : IntsIn w a xs) (hb : Below w.heap.size w w') : IntsIn w' a xs := fun k hk => by
  obtain ⟨b, off, rfl, hc⟩ := h k hk
  exact ⟨b, off, rfl, keep hc hb⟩
theorem IntsIn.nil (w : World) (a : Option Addr) : IntsIn w a [] := fun _ hk => absurd hk (Nat.not_lt_zero _)
def encI (xs : List Int) : List Value := xs.map fun x => .int .i64 x
theorem encI_len (xs : List Int) : (encI xs).length = xs.length := by simp [encI]
theorem encI_snoc (xs : List Int) (x : Int) : encI (xs ++ [x]) = encI xs ++ [.int .i64 x] := by simp [encI]
theorem encI_set (xs : List Int) (k : Nat) (x : Int) : encI (xs.set k x) = (encI xs).set k (.int .i64 x) := by simp [encI]
theorem encI_take (xs : List Int) (k : Nat) : encI (xs.take k) = (encI xs).take k := by simp [encI, List.map_take]
theorem encI_get {xs : List Int} {k : Nat} (h : k < xs.length) : (encI xs)[k]? = some (.int .i64 (xs.getD k 0)) := by
  simp [encI, List.getElem?_eq_getElem h, List.getD_eq_getElem?_getD]
theorem encI_one (xs : List Int) : ∀ u ∈ encI xs, u.oneCell' = true := fun u hu => by
  obtain ⟨x, _, rfl⟩ := List.mem_map.1 hu; rfl
theorem ints_of_owns {w : World} {base : Nat} {e : TypeId} {v : Value} {xs : List Int} (h : w.ownsRow base e 1 v xs.length (encI xs)) : ∃ a cap, v = .slice a xs.length cap ∧ xs.length ≤ cap ∧ IntsIn w a xs := by
  by_cases h0 : xs = []
  · subst h0
    obtain ⟨a, cap, rfl⟩ := owns_shape h
    exact ⟨a, cap, rfl, Nat.zero_le _, IntsIn.nil _ _⟩
  · obtain ⟨g, cap, rfl, hnc, _, _, _, hc, _⟩ := owns_cells h (List.length_pos_iff.2 h0)
    exact ⟨_, cap, rfl, hnc, fun k hk => ⟨g, 0, rfl, by rw [Nat.zero_add]; exact hc k _ (encI_get hk)⟩⟩

/-! ### Marked blocks -/
/-- A row in a block with the mark t. -/
def Own (w : World) (o : Nat → Nat) (t : Nat) (e : TypeId) (v : Value) (xs : List Value) : Prop := w.ownsRow 0 e 1 v xs.length xs ∧ ∀ g, v.ownBlock = some g → o g = t
/-- Numbers in a block that is not written any more (mark 1). -/
def Fix (w : World) (o : Nat → Nat) (v : Value) (xs : List Int) : Prop := ∃ a cap, v = .slice a xs.length cap ∧ xs.length ≤ cap ∧ (a = none → cap = 0) ∧ IntsIn w a xs ∧ ∀ b off, a = some ⟨b, off, none⟩ → o b = 1 ∧ b < w.heap.size
/-- Only blocks with the mark t have changed, and old blocks have kept their marks. -/
structure Chg (t : Nat) (o o' : Nat → Nat) (w w' : World) : Prop where
  os : w'.os = w.os
  tape : w'.tape = w.tape
  output : w'.output = w.output
  size : w.heap.size ≤ w'.heap.size
  block : ∀ k, k < w.heap.size → o k ≠ t → w'.heap[k]? = w.heap[k]?
  tag : ∀ k, k < w.heap.size → o' k = o k
theorem Own.chg {w w' : World} {o o' : Nat → Nat} {t t' : Nat} {e : TypeId} {v : Value} {xs : List Value} (h : Own w o t e v xs) (hc : Chg t' o o' w w') (hne : t ≠ t') : Own w' o' t e v xs := by
  refine ⟨owns_of_block h.1 fun g hg e => hc.block g hg (by rw [h.2 g e]; exact hne), fun g hg => ?_⟩
  rw [hc.tag g (owns_lt h.1 hg).2]
  exact h.2 g hg
theorem Fix.chg {w w' : World} {o o' : Nat → Nat} {t' : Nat} {v : Value} {xs : List Int} (h : Fix w o v xs) (hc : Chg t' o o' w w') (hne : 1 ≠ t') : Fix w' o' v xs := by
  obtain ⟨a, cap, rfl, h1, h0, hi, hb⟩ := h
  refine ⟨a, cap, rfl, h1, h0, fun k hk => ?_, fun b off e => ?_⟩
  · obtain ⟨b, off, rfl, hcl⟩ := hi k hk
    exact ⟨b, off, rfl, cell_same hcl (hc.block b (hb b off rfl).2 (by rw [(hb b off rfl).1]; exact hne))⟩
  · obtain ⟨h2, h3⟩ := hb b off e
    exact ⟨by rw [hc.tag b h3]; exact h2, Nat.lt_of_lt_of_le h3 hc.size⟩
theorem Fix.nil (w : World) (o : Nat → Nat) : Fix w o (.slice none 0 0) [] := ⟨none, 0, rfl, Nat.le_refl _, fun _ => rfl, IntsIn.nil _ _, fun _ _ e => by cases e⟩
theorem Chg.refl (t : Nat) (o : Nat → Nat) (w : World) : Chg t o o w w := ⟨rfl, rfl, rfl, Nat.le_refl _, fun _ _ _ => rfl, fun _ _ => rfl⟩
theorem Chg.trans {t : Nat} {o1 o2 o3 : Nat → Nat} {a b c : World} (h : Chg t o1 o2 a b) (k : Chg t o2 o3 b c) : Chg t o1 o3 a c :=
  ⟨k.os.trans h.os, k.tape.trans h.tape, k.output.trans h.output, Nat.le_trans h.size k.size, fun i hi hq => (k.block i (Nat.lt_of_lt_of_le hi h.size) (by rw [h.tag i hi]; exact hq)).trans (h.block i hi hq), fun i hi => (k.tag i (Nat.lt_of_lt_of_le hi h.size)).trans (h.tag i hi)⟩
theorem Chg.set {o : Nat → Nat} {t q : Nat} (w : World) (hq : o q = t) (j : Nat) (x : Value) : Chg t o o w (w.setCell ⟨q, j, none⟩ x) :=
  ⟨rfl, rfl, rfl, by simp [World.setCell], fun k _ hk => Below.heap_setCell _ _ _ _ (fun e => hk (e ▸ hq)), fun _ _ => rfl⟩
/-- The block of a slice bears the mark t now. -/
def retag (o : Nat → Nat) (v : Value) (t : Nat) : Nat → Nat := fun k => if v.ownBlock = some k then t else o k
theorem retag_at {o : Nat → Nat} {v : Value} {t g : Nat} (h : v.ownBlock = some g) : retag o v t g = t := if_pos h
theorem retag_ne {o : Nat → Nat} {v : Value} {t g : Nat} (h : v.ownBlock ≠ some g) : retag o v t g = o g := if_neg h
/-- A row has grown: it lies where it lay, or in a new block. -/
theorem chg_grown {w w' : World} {o : Nat → Nat} {t : Nat} {v v' : Value} (hg : w.grownBy w' v.ownBlock) (hv : ∀ g, v.ownBlock = some g → o g = t) (hat : v'.ownBlock = v.ownBlock ∨ ∃ g, v'.ownBlock = some g ∧ w.heap.size ≤ g) : Chg t o (retag o v' t) w w' := by
  refine ⟨hg.os, hg.tape, hg.output, hg.size, fun k hk hq => hg.block k hk fun e => hq (hv k e.symm), fun k hk => ?_⟩
  by_cases e : v'.ownBlock = some k
  · rw [retag_at e]
    rcases hat with h | ⟨g, h1, h2⟩
    · exact (hv k (h ▸ e)).symm
    · rw [h1] at e; cases e; omega
  · exact retag_ne e

/-! ### The struct of rows -/
def rowTy (i : Nat) : TypeId := if i ≤ 2 then 40 else if i = 9 then 53 else 3
def isRow (i : Nat) : Prop := i ≤ 11 ∧ i ≠ 8 ∧ i ≠ 10
/-- What lies in memory: the struct's cells, the rows' elements, the clauses' elements, the fixed lists. -/
structure Mem where
  h : List Value
  c : Nat → List Value
  b : Nat → List Value
  f : Nat → Nat → List Int
def nov : Value := .bool false
structure MAt (w : World) (o : Nat → Nat) (p : Nat) (M : Mem) : Prop where
  st : w.heap[p]? = some (.cells M.h.toArray 55 (0, 0))
  hl : M.h.length = 12
  sp : o p = 2
  row : ∀ i, isRow i → Own w o (10 + i) (rowTy i) (M.h.getD i nov) (M.c i)
  cla : ∀ k, k < (M.c 0).length → Own w o (100 + k) 3 ((M.c 0).getD k nov) (M.b k)
  fix : ∀ i k, (i = 1 ∨ i = 2) → k < (M.c i).length → Fix w o ((M.c i).getD k nov) (M.f i k)
  fr : ∀ k, w.heap.size ≤ k → o k = 0
theorem MAt.lt {w : World} {o : Nat → Nat} {p : Nat} {M : Mem} (h : MAt w o p M) : p < w.heap.size := lt_of_block h.st
/-- Nothing that is marked has changed. -/
theorem MAt.chg {w w' : World} {o o' : Nat → Nat} {p : Nat} {M : Mem} (h : MAt w o p M) (hc : Chg 0 o o' w w') (hfr : ∀ k, w'.heap.size ≤ k → o' k = 0) : MAt w' o' p M := by
  refine ⟨?_, h.hl, by rw [hc.tag p h.lt]; exact h.sp, fun i hi => (h.row i hi).chg hc (by omega), fun k hk => (h.cla k hk).chg hc (by omega), fun i k hi hk => (h.fix i k hi hk).chg hc (by omega), hfr⟩
  rw [hc.block p h.lt (by rw [h.sp]; decide)]
  exact h.st
theorem MAt.below {w w' : World} {o : Nat → Nat} {p : Nat} {M : Mem} (h : MAt w o p M) (hb : Below w.heap.size w w') : MAt w' o p M :=
  h.chg ⟨hb.os, hb.tape, hb.output, hb.size, fun k hk _ => hb.block k hk, fun _ _ => rfl⟩ fun k hk => h.fr k (Nat.le_trans hb.size hk)
theorem MAt.cell {w : World} {o : Nat → Nat} {p : Nat} {M : Mem} (h : MAt w o p M) {i : Nat} (hi : i < 12) : w.cell? ⟨p, i, none⟩ = some (M.h.getD i nov) := by
  rw [cell_of_row w p i _ _ _ h.st]
  have hi2 : i < M.h.length := by rw [h.hl]; exact hi
  simp [List.getD_eq_getElem?_getD, List.getElem?_eq_getElem hi2]
theorem MAt.free {w : World} {o : Nat → Nat} {p : Nat} {M : Mem} (h : MAt w o p M) (i : Nat) : w.frozen? ⟨p, i, none⟩ = false := frozen_of_row w p i _ _ h.st
/-- An element of a row. -/
theorem Own.cell {w : World} {o : Nat → Nat} {t : Nat} {e : TypeId} {v : Value} {xs : List Value} (h : Own w o t e v xs) {j : Nat} (hj : j < xs.length) : ∃ g cap, v = .slice (some ⟨g, 0, none⟩) xs.length cap ∧ xs.length ≤ cap ∧ g < w.heap.size ∧ o g = t ∧ (∀ j, j < xs.length → w.cell? ⟨g, j, none⟩ = some (xs.getD j nov)) ∧ ∀ j, w.frozen? ⟨g, j, none⟩ = false := by
  obtain ⟨g, cap, rfl, h1, _, _, h2, h3, h4⟩ := owns_cells h.1 (by omega)
  refine ⟨g, cap, rfl, h1, h2, h.2 g rfl, fun j hj => ?_, h4⟩
  exact h3 j _ (by simp [List.getD_eq_getElem?_getD, List.getElem?_eq_getElem hj])
def updF {α : Type} (f : Nat → α) (i : Nat) (x : α) : Nat → α := fun j => if j = i then x else f j
theorem updF_at {α : Type} (f : Nat → α) (i : Nat) (x : α) : updF f i x i = x := if_pos rfl
theorem updF_ne {α : Type} {f : Nat → α} {i j : Nat} {x : α} (h : j ≠ i) : updF f i x j = f j := if_neg h
/-- An element of a row of numbers is written. -/
theorem MAt.setRow {w : World} {o : Nat → Nat} {p : Nat} {M : Mem} (h : MAt w o p M) {i : Nat} (hi : isRow i) (h3 : 3 ≤ i) {g n cap : Nat} (hv : M.h.getD i nov = .slice (some ⟨g, 0, none⟩) n cap) (j : Nat) (x : Value) : MAt (w.setCell ⟨g, j, none⟩ x) o p { M with c := updF M.c i ((M.c i).set j x) } := by
  have hO := h.row i hi
  have ht : o g = 10 + i := hO.2 g (by rw [hv]; rfl)
  have hn : n = (M.c i).length := by
    obtain ⟨a, c, e⟩ := owns_shape hO.1
    rw [hv] at e; cases e; rfl
  subst hn
  have hc := Chg.set w ht j x
  have hi12 := hi.1
  refine ⟨?_, h.hl, h.sp, fun i' hi' => ?_, fun k hk => ?_, fun i' k hi' hk => ?_, fun k hk => h.fr k (by simpa [World.setCell] using hk)⟩
  · rw [hc.block p h.lt (by rw [h.sp]; omega)]; exact h.st
  · show Own _ o (10 + i') (rowTy i') _ (updF M.c i _ i')
    by_cases e : i' = i
    · subst e
      rw [updF_at]
      refine ⟨?_, hO.2⟩
      show World.ownsRow _ _ _ _ (M.h.getD i' nov) _ _
      rw [hv, List.length_set]
      exact owns_set (hv ▸ hO.1) j x
    · rw [updF_ne e]
      exact (h.row i' hi').chg hc (by omega)
  · have e0 : updF M.c i ((M.c i).set j x) 0 = M.c 0 := updF_ne (by omega)
    show Own _ o _ _ ((updF M.c i _ 0).getD k nov) _
    rw [e0]
    exact (h.cla k (by rw [← e0]; exact hk)).chg hc (by omega)
  · have e0 : updF M.c i ((M.c i).set j x) i' = M.c i' := updF_ne (by omega)
    show Fix _ o ((updF M.c i _ i').getD k nov) _
    rw [e0]
    exact (h.fix i' k hi' (by rw [← e0]; exact hk)).chg hc (by omega)
/-- An element of a clause is written. -/
theorem MAt.setCla {w : World} {o : Nat → Nat} {p : Nat} {M : Mem} (h : MAt w o p M) {k : Nat} (hk : k < (M.c 0).length) {g n cap : Nat} (hv : (M.c 0).getD k nov = .slice (some ⟨g, 0, none⟩) n cap) (j : Nat) (x : Value) : MAt (w.setCell ⟨g, j, none⟩ x) o p { M with b := updF M.b k ((M.b k).set j x) } := by
  have hO := h.cla k hk
  have ht : o g = 100 + k := hO.2 g (by rw [hv]; rfl)
  have hn : n = (M.b k).length := by
    obtain ⟨a, c, e⟩ := owns_shape hO.1
    rw [hv] at e; cases e; rfl
  subst hn
  have hc := Chg.set w ht j x
  refine ⟨?_, h.hl, h.sp, fun i' hi' => (h.row i' hi').chg hc (by have := hi'.1; omega), fun k' hk' => ?_, fun i' k' hi' hk' => (h.fix i' k' hi' hk').chg hc (by omega), fun k hk => h.fr k (by simpa [World.setCell] using hk)⟩
  · rw [hc.block p h.lt (by rw [h.sp]; omega)]; exact h.st
  · show Own _ o (100 + k') _ _ (updF M.b k _ k')
    by_cases e : k' = k
    · subst e
      rw [updF_at]
      refine ⟨?_, hO.2⟩
      show World.ownsRow _ _ _ _ ((M.c 0).getD k' nov) _ _
      rw [hv, List.length_set]
      exact owns_set (hv ▸ hO.1) j x
    · rw [updF_ne e]
      exact (h.cla k' hk').chg hc (by omega)
end Go.Proofs.Ytahaoddilejpnaa
