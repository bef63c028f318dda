/- How data lie in memory: lists of numbers, lists of moves, the maps, the open moves. -/
import Derived.Test.YtjfpaelmcepidaaS
import Derived.Test.YtjfpaelmcepidaaP1
import Derived.WalkKit
import Derived.WalkSpells
import Derived.WalkLawsBesides
import Derived.BigQuiet
import Derived.Deep.QuietTactic
import Derived.Lib.Hide
import Derived.Laws.EntriesVeiled
import Derived.Laws.Rows
import Derived.OneCell
import Derived.Maps.OwnSet
import Derived.Maps.RangeWalk
import Derived.Maps.Ext
namespace Go.Proofs.Ytjfpaelmcepidaa
open Go.RowKit Go.Maps

theorem ret_bool {a b : Bool} (h : a = b) : Ending.returned (.bool a) = .returned (.bool b) := by rw [h]
theorem ret_int {k : IntKind} {a b : Int} (h : a = b) : Ending.returned (.int k a) = .returned (.int k b) := by rw [h]
theorem ret_pair {k : IntKind} {a b : Int} {v : Value} (h : a = b) : Ending.returned (.tuple #[.int k a, v]) = .returned (.tuple #[.int k b, v]) := by rw [h]
theorem bc {W w1 : World} (hb : Below W.heap.size W w1) {b : Nat} (h : b < W.heap.size) : ∀ j, w1.cell? ⟨b, j, none⟩ = W.cell? ⟨b, j, none⟩ :=
  fun j => hb.cell (p := ⟨b, j, none⟩) h

/-- The cells of a slice are these numbers. -/
def IntsIn (w : World) (a : Option Addr) (xs : List Int) : Prop :=
  ∀ k, k < xs.length → ∃ b off, a = some ⟨b, off, none⟩ ∧ w.cell? ⟨b, off + k, none⟩ = some (.int .i64 (xs.getD k 0))
def NatsIn (w : World) (a : Option Addr) (xs : List Nat) : Prop :=
  ∀ k, k < xs.length → ∃ b off, a = some ⟨b, off, none⟩ ∧ w.cell? ⟨b, off + k, none⟩ = some (.int .i64 (xs.getD k 0 : Nat))
theorem keep {w w' : World} {b off : Nat} {v : Value} (h : w.cell? ⟨b, off, none⟩ = some v) (hb : Below w.heap.size w w') : w'.cell? ⟨b, off, none⟩ = some v := by
  rw [hb.cell (p := ⟨b, off, none⟩) (block_lt_of_cell h)]; exact h
theorem IntsIn.below {w w' : World} {a : Option Addr} {xs : List Int} (h : IntsIn w a xs) (hb : Below w.heap.size w w') : IntsIn w' a xs := fun k hk => by
  obtain ⟨b, off, rfl, hc⟩ := h k hk
  exact ⟨b, off, rfl, keep hc hb⟩
theorem NatsIn.below {w w' : World} {a : Option Addr} {xs : List Nat} (h : NatsIn w a xs) (hb : Below w.heap.size w w') : NatsIn w' a xs := fun k hk => by
  obtain ⟨b, off, rfl, hc⟩ := h k hk
  exact ⟨b, off, rfl, keep hc hb⟩
theorem heap_at (w : World) (o : Obj) (n : Nat) (h : n = w.heap.size) : (w.alloc o).heap[n]? = some o := by subst h; exact heap_alloc_new w o
theorem heap_past (w : World) (o : Obj) (n : Nat) (h : n < w.heap.size) : (w.alloc o).heap[n]? = w.heap[n]? := Below.heap_alloc w o n h
/-- Nothing but one block has changed, and no block is new. -/
structure Touch (q : Nat) (w w' : World) : Prop where
  os : w'.os = w.os
  tape : w'.tape = w.tape
  output : w'.output = w.output
  size : w'.heap.size = w.heap.size
  block : ∀ k, k ≠ q → w'.heap[k]? = w.heap[k]?
theorem Touch.refl (q : Nat) (w : World) : Touch q w w := ⟨rfl, rfl, rfl, rfl, fun _ _ => rfl⟩
theorem Touch.trans {q : Nat} {a b c : World} (h : Touch q a b) (k : Touch q b c) : Touch q a c :=
  ⟨k.os.trans h.os, k.tape.trans h.tape, k.output.trans h.output, k.size.trans h.size, fun i hi => (k.block i hi).trans (h.block i hi)⟩
theorem Touch.set (w : World) (q v : Nat) (x : Value) : Touch q w (w.setCell ⟨q, v, none⟩ x) :=
  ⟨rfl, rfl, rfl, by simp [World.setCell], fun k hk => Below.heap_setCell _ _ _ _ hk⟩
theorem Touch.cell {q : Nat} {w w' : World} (h : Touch q w w') {b : Nat} (hb : b ≠ q) (k : Nat) : w'.cell? ⟨b, k, none⟩ = w.cell? ⟨b, k, none⟩ :=
  World.cell?_of_block (w := w) (h.block b hb)
theorem Touch.frozen {q : Nat} {w w' : World} (h : Touch q w w') {b : Nat} (hb : b ≠ q) (k : Nat) : w'.frozen? ⟨b, k, none⟩ = w.frozen? ⟨b, k, none⟩ :=
  World.frozen?_of_block (w := w) (h.block b hb)
theorem Touch.below {q : Nat} {w w' : World} (h : Touch q w w') {B : Nat} (hq : B ≤ q) : Below B w w' :=
  ⟨h.os, h.tape, h.output, by rw [h.size]; exact Nat.le_refl _, fun k hk => h.block k (by omega)⟩
/-- A slice of these numbers. -/
def NatSl (w : World) (v : Value) (xs : List Nat) : Prop := ∃ a cap, v = .slice a xs.length cap ∧ NatsIn w a xs
theorem NatSl.below {w w' : World} {v : Value} {xs : List Nat} (h : NatSl w v xs) (hb : Below w.heap.size w w') : NatSl w' v xs := by
  obtain ⟨a, cap, rfl, hn⟩ := h
  exact ⟨a, cap, rfl, hn.below hb⟩
def encN (xs : List Nat) : List Value := xs.map fun x => .int .i64 (x : Nat)
theorem encN_len (xs : List Nat) : (encN xs).length = xs.length := by simp [encN]
theorem natSl_of_owns {w : World} {base : Nat} {e : TypeId} {v : Value} {xs : List Nat} (h : w.ownsRow base e 1 v xs.length (encN xs)) : NatSl w v xs := by
  obtain ⟨_, h | ⟨g, cap, cur, rfl, hb, hg, hnc, hm, hcs, ht⟩⟩ := h
  · obtain ⟨rfl, h0⟩ := h
    have : xs = [] := List.length_eq_zero_iff.1 h0
    subst this
    exact ⟨none, 0, rfl, fun k hk => absurd hk (Nat.not_lt_zero _)⟩
  · refine ⟨_, cap, rfl, fun k hk => ⟨g, 0, rfl, ?_⟩⟩
    rw [Nat.zero_add, cell_of_row w g k _ _ _ hg]
    have : (encN xs)[k]? = some (.int .i64 (xs.getD k 0 : Nat)) := by
      simp [encN, List.getElem?_eq_getElem hk, List.getD_eq_getElem?_getD]
    rw [← ht, List.getElem?_take, if_pos (by omega)] at this
    simpa using this

theorem Try.infoInt : (Try.prog.info? 3).map (fun i => (i.zero, i.size, i.bytes)) = some (some (.int .i64 0), 1, 8) := by kernel_rfl
theorem one_int {k : Int} : ∀ u ∈ [Value.int .i64 k], u.oneCell' = true := by simp [Value.oneCell']
theorem encN_snoc (xs : List Nat) (x : Nat) : encN (xs ++ [x]) = encN xs ++ [.int .i64 (x : Nat)] := by simp [encN]

theorem owns_bound {w : World} {base : Nat} {e : TypeId} {a : Option Addr} {cap : Nat} {xs : List Nat} (h : w.ownsRow base e 1 (.slice a xs.length cap) xs.length (encN xs)) : NatsIn w a xs := by
  obtain ⟨a', cap', e1, h1⟩ := natSl_of_owns h
  simp only [Value.slice.injEq] at e1
  obtain ⟨rfl, _, _⟩ := e1
  exact h1
theorem owns_form {w : World} {base : Nat} {e : TypeId} {v : Value} {xs : List Nat} (h : w.ownsRow base e 1 v xs.length (encN xs)) : ∃ a cap, v = .slice a xs.length cap := by
  obtain ⟨a, cap, rfl, _⟩ := natSl_of_owns h
  exact ⟨a, cap, rfl⟩

abbrev Pairs := List (Nat × Nat)
/-- A slice of these pairs. -/
def PairSl (w : World) (v : Value) (ps : Pairs) : Prop := ∃ a cap, v = .slice a ps.length cap ∧
  ∀ k, k < ps.length → ∃ b off, a = some ⟨b, off, none⟩ ∧ w.cell? ⟨b, off + k * 2, none⟩ = some (.int .i64 ((ps.getD k (0, 0)).1 : Nat)) ∧ w.cell? ⟨b, off + k * 2 + 1, none⟩ = some (.int .i64 ((ps.getD k (0, 0)).2 : Nat))
theorem PairSl.below {w w' : World} {v : Value} {ps : Pairs} (h : PairSl w v ps) (hb : Below w.heap.size w w') : PairSl w' v ps := by
  obtain ⟨a, cap, rfl, hn⟩ := h
  refine ⟨a, cap, rfl, fun k hk => ?_⟩
  obtain ⟨b, off, rfl, h1, h2⟩ := hn k hk
  exact ⟨b, off, rfl, keep h1 hb, keep h2 hb⟩
theorem PairSl.nil (w : World) : PairSl w (.slice none 0 0) [] := ⟨none, 0, rfl, fun _ hk => absurd hk (Nat.not_lt_zero _)⟩
def encP (ps : Pairs) : List Value := ps.flatMap fun p => [.int .i64 (p.1 : Nat), .int .i64 (p.2 : Nat)]
theorem encP_snoc (ps : Pairs) (p : Nat × Nat) : encP (ps ++ [p]) = encP ps ++ [.int .i64 (p.1 : Nat), .int .i64 (p.2 : Nat)] := by simp [encP]
theorem encP_get : ∀ (ps : Pairs) (k : Nat), k < ps.length → (encP ps)[k * 2]? = some (.int .i64 ((ps.getD k (0, 0)).1 : Nat)) ∧ (encP ps)[k * 2 + 1]? = some (.int .i64 ((ps.getD k (0, 0)).2 : Nat))
  | p :: ps, 0, _ => by simp [encP]
  | p :: ps, k + 1, h => by
    have := encP_get ps k (by simpa using h)
    have e : encP (p :: ps) = .int .i64 (p.1 : Nat) :: .int .i64 (p.2 : Nat) :: encP ps := by simp [encP]
    rw [e, show (k + 1) * 2 = k * 2 + 1 + 1 by omega, show k * 2 + 1 + 1 + 1 = (k * 2 + 1) + 1 + 1 by omega]
    simpa using this
theorem pairSl_of_owns {w : World} {base : Nat} {e : TypeId} {v : Value} {ps : Pairs} (h : w.ownsRow base e 2 v ps.length (encP ps)) : PairSl w v ps := by
  obtain ⟨_, h | ⟨g, cap, cur, rfl, hb, hg, hnc, hm, hcs, ht⟩⟩ := h
  · obtain ⟨rfl, h0⟩ := h
    have : ps = [] := List.length_eq_zero_iff.1 h0
    subst this
    exact PairSl.nil w
  · refine ⟨_, cap, rfl, fun k hk => ⟨g, 0, rfl, ?_, ?_⟩⟩
    · rw [Nat.zero_add, cell_of_row w g _ _ _ _ hg]
      have := (encP_get ps k hk).1
      rw [← ht, List.getElem?_take, if_pos (by omega)] at this
      simpa using this
    · rw [Nat.zero_add, cell_of_row w g _ _ _ _ hg]
      have := (encP_get ps k hk).2
      rw [← ht, List.getElem?_take, if_pos (by omega)] at this
      simpa using this
theorem Try.infoMove : (Try.prog.info? 52).map (fun i => (i.zero, i.size, i.bytes)) = some (some (.agg #[.int .i64 0, .int .i64 0]), 2, 16) := by kernel_rfl
theorem two_one {a b : Int} : ∀ u ∈ [Value.int .i64 a, Value.int .i64 b], u.oneCell' = true := by simp [Value.oneCell']
theorem pair_new (w : World) (a b : Int) (T : TypeId) : ∀ j u, [Value.int .i64 a, Value.int .i64 b][j]? = some u → (w.alloc (.cells #[.int .i64 a, .int .i64 b] T)).cell? ((⟨w.heap.size, 0, none⟩ : Addr).add j) = some u := by
  intro j u hu
  have hadd : (⟨w.heap.size, 0, none⟩ : Addr).add j = ⟨w.heap.size, j, none⟩ := by unfold Addr.add; split <;> simp_all
  rw [hadd, World.cell?_alloc_at _ _ _ _ rfl]
  match j, hu with
  | 0, hu => simpa using hu
  | 1, hu => simpa using hu

def PairsIn (w : World) (a : Option Addr) (ps : Pairs) : Prop := ∀ k, k < ps.length → ∃ b off, a = some ⟨b, off, none⟩ ∧ w.cell? ⟨b, off + k * 2, none⟩ = some (.int .i64 ((ps.getD k (0, 0)).1 : Nat)) ∧ w.cell? ⟨b, off + k * 2 + 1, none⟩ = some (.int .i64 ((ps.getD k (0, 0)).2 : Nat))
theorem PairsIn.below {w w' : World} {a : Option Addr} {ps : Pairs} (h : PairsIn w a ps) (hb : Below w.heap.size w w') : PairsIn w' a ps := fun k hk => by
  obtain ⟨b, off, rfl, h1, h2⟩ := h k hk
  exact ⟨b, off, rfl, keep h1 hb, keep h2 hb⟩

/-- Nothing of what was there has changed but one block. -/
structure Save (q : Nat) (w w' : World) : Prop where
  os : w'.os = w.os
  tape : w'.tape = w.tape
  output : w'.output = w.output
  size : w.heap.size ≤ w'.heap.size
  block : ∀ k, k < w.heap.size → k ≠ q → w'.heap[k]? = w.heap[k]?
theorem Save.refl (q : Nat) (w : World) : Save q w w := ⟨rfl, rfl, rfl, Nat.le_refl _, fun _ _ _ => rfl⟩
theorem Save.trans {q : Nat} {a b c : World} (h : Save q a b) (k : Save q b c) : Save q a c :=
  ⟨k.os.trans h.os, k.tape.trans h.tape, k.output.trans h.output, Nat.le_trans h.size k.size, fun i hi hq => (k.block i (Nat.lt_of_lt_of_le hi h.size) hq).trans (h.block i hi hq)⟩
theorem Save.of_below {q : Nat} {w w' : World} (h : Below w.heap.size w w') : Save q w w' := ⟨h.os, h.tape, h.output, h.size, fun k hk _ => h.block k hk⟩
theorem Save.set (q v : Nat) (w : World) (x : Value) : Save q w (w.setCell ⟨q, v, none⟩ x) :=
  ⟨rfl, rfl, rfl, by simp [World.setCell], fun k _ hk => Below.heap_setCell _ _ _ _ hk⟩
theorem Save.below {q : Nat} {w w' : World} (h : Save q w w') {B : Nat} (hq : B ≤ q) (hB : B ≤ w.heap.size) : Below B w w' :=
  ⟨h.os, h.tape, h.output, h.size, fun k hk => h.block k (by omega) (by omega)⟩
theorem Save.cell {q : Nat} {w w' : World} (h : Save q w w') {b k : Nat} {v : Value} (hb : b ≠ q) (hc : w.cell? ⟨b, k, none⟩ = some v) : w'.cell? ⟨b, k, none⟩ = some v := by
  rw [World.cell?_of_block (w := w) (h.block b (block_lt_of_cell hc) hb)]; exact hc
theorem Save.nats {q : Nat} {w w' : World} {a : Option Addr} {xs : List Nat} (h : Save q w w') (hn : NatsIn w a xs) (hne : ∀ k, k < xs.length → ∀ b off, a = some ⟨b, off, none⟩ → b ≠ q) : NatsIn w' a xs := fun k hk => by
  obtain ⟨b, off, rfl, hc⟩ := hn k hk
  exact ⟨b, off, rfl, h.cell (hne k hk b off rfl) hc⟩
end Go.Proofs.Ytjfpaelmcepidaa
