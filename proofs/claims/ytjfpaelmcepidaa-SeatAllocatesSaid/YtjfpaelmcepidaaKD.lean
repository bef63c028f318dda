/- How numbers and instructions lie in memory; rows of the call's own. -/
import Derived.Test.YtjfpaelmcepidaaK1
import Derived.Test.YtjfpaelmcepidaaProg
import Derived.WalkKit
import Derived.WalkSpells
import Derived.WalkLawsBesides
import Derived.BigQuiet
import Derived.Deep.QuietTactic
import Derived.Lib.Hide
import Derived.Lib.SliceRun
import Derived.Laws.EntriesVeiled
import Derived.Laws.Rows
import Derived.OneCell
import Derived.Shelf.Abstract
import Derived.Maps.AppendAt
namespace Go.Proofs.Ytjfpaelmcepidaa.PK
open Go.RowKit

theorem ret_bool {a b : Bool} (h : a = b) : Ending.returned (.bool a) = .returned (.bool b) := by rw [h]
theorem ret_int {k : IntKind} {a b : Int} (h : a = b) : Ending.returned (.int k a) = .returned (.int k b) := by rw [h]
theorem ret_two {v : Value} {k : IntKind} {a b : Int} (h : a = b) : Ending.returned (.tuple #[v, .int k a]) = .returned (.tuple #[v, .int k b]) := by rw [h]
theorem keep {w w' : World} {b off : Nat} {v : Value} (h : w.cell? ⟨b, off, none⟩ = some v) (hb : Below w.heap.size w w') : w'.cell? ⟨b, off, none⟩ = some v := by
  rw [hb.cell (p := ⟨b, off, none⟩) (block_lt_of_cell h)]; exact h
theorem below_drewN {B : Nat} {w w' : World} (h : Below B w w') (n : Nat) : Below B w (w'.drewN n) := ⟨h.os, h.tape, h.output, h.size, h.block⟩
theorem below_drew1 {B : Nat} {w w' : World} (h : Below B w w') : Below B w w'.drew := ⟨h.os, h.tape, h.output, h.size, h.block⟩
theorem below_setCell (w : World) {B q k : Nat} (h : B ≤ q) (x : Value) : Below B w (w.setCell ⟨q, k, none⟩ x) := (Below.refl _ _).setCell h x
theorem below_of_drew {w w' : World} (h : Below w.drew.heap.size w.drew w') : Below w.heap.size w w' := ⟨h.os, h.tape, h.output, h.size, h.block⟩
theorem heap_at (w : World) (o : Obj) (n : Nat) (h : n = w.heap.size) : (w.alloc o).heap[n]? = some o := by subst h; exact heap_alloc_new w o
theorem heap_past (w : World) (o : Obj) (n : Nat) (h : n < w.heap.size) : (w.alloc o).heap[n]? = w.heap[n]? := Below.heap_alloc w o n h
theorem addr_zero (b j : Nat) : (⟨b, 0, none⟩ : Addr).add j = ⟨b, j, none⟩ := by unfold Addr.add; simp; intro h; omega
theorem cell_one_at (w : World) (x : Value) (t : TypeId) : ∀ j u, [x][j]? = some u → (w.alloc (.cells #[x] t)).cell? ((⟨w.heap.size, 0, none⟩ : Addr).add j) = some u := by
  intro j u hj
  rw [addr_zero, World.cell?_alloc_at _ _ _ _ rfl]
  match j, hj with
  | 0, hj => simpa using hj
theorem cell_six_at (w : World) (a b c d e f : Value) (t : TypeId) : ∀ j u, [a, b, c, d, e, f][j]? = some u → (w.alloc (.cells #[a, b, c, d, e, f] t)).cell? ((⟨w.heap.size, 0, none⟩ : Addr).add j) = some u := by
  intro j u hj
  rw [addr_zero, World.cell?_alloc_at _ _ _ _ rfl]
  match j, hj with
  | 0, hj => simpa using hj
  | 1, hj => simpa using hj
  | 2, hj => simpa using hj
  | 3, hj => simpa using hj
  | 4, hj => simpa using hj
  | 5, hj => simpa using hj
theorem one_int (k : Int) : ∀ u ∈ [Value.int .i64 k], u.oneCell' = true := by simp [Value.oneCell']
theorem one_six (a b c d : Int) (n : Int) (e : Int) : ∀ u ∈ [Value.int .i64 a, .int .i64 b, .int .i64 c, .int .i64 d, .int .u32 n, .int .i64 e], u.oneCell' = true := by simp [Value.oneCell']

/-! ### Rows of the call's own -/
theorem owns_shape {w : World} {base : Nat} {e : TypeId} {s n : Nat} {v : Value} {xs : List Value} (h : w.ownsRow base e s v n xs) : ∃ a cap, v = .slice a n cap := by
  obtain ⟨_, ⟨rfl, rfl⟩ | ⟨g, cap, cur, rfl, _⟩⟩ := h
  · exact ⟨none, 0, rfl⟩
  · exact ⟨_, cap, rfl⟩
theorem owns_block {w : World} {base : Nat} {e : TypeId} {s n : Nat} {v : Value} {xs : List Value} (h : w.ownsRow base e s v n xs) {g : Nat} (hg : v.ownBlock = some g) : base ≤ g ∧ g < w.heap.size := by
  obtain ⟨_, ⟨rfl, rfl⟩ | ⟨g', cap, cur, rfl, hb, hc, _⟩⟩ := h
  · cases hg
  · simp only [Value.ownBlock, Option.some.injEq] at hg
    subst hg
    exact ⟨hb, lt_of_block hc⟩
theorem owns_of_block {w w' : World} {base : Nat} {e : TypeId} {s n : Nat} {v : Value} {xs : List Value} (h : w.ownsRow base e s v n xs) (hb : ∀ g, base ≤ g → g < w.heap.size → v.ownBlock = some g → w'.heap[g]? = w.heap[g]?) : w'.ownsRow base e s v n xs := by
  refine ⟨h.1, ?_⟩
  rcases h.2 with h1 | ⟨g, cap, cur, e, hg, hc, r⟩
  · exact .inl h1
  · exact .inr ⟨g, cap, cur, e, hg, (hb g hg (lt_of_block hc) (by rw [e]; rfl)).trans hc, r⟩
theorem owns_below {w w' : World} {base : Nat} {e : TypeId} {s n : Nat} {v : Value} {xs : List Value} (h : w.ownsRow base e s v n xs) (hb : Below w.heap.size w w') : w'.ownsRow base e s v n xs := owns_of_block h fun g _ h2 _ => hb.block g h2
theorem owns_base {w : World} {B B' : Nat} {e : TypeId} {s n : Nat} {v : Value} {xs : List Value} (h : w.ownsRow B e s v n xs) (hb : B' ≤ B) : w.ownsRow B' e s v n xs := by
  refine ⟨h.1, ?_⟩
  rcases h.2 with h1 | ⟨g, cap, cur, e, hg, r⟩
  · exact .inl h1
  · exact .inr ⟨g, cap, cur, e, Nat.le_trans hb hg, r⟩
theorem owns_set {w : World} {B g n c s : Nat} {e : TypeId} {xs : List Value} (h : w.ownsRow B e s (.slice (some ⟨g, 0, none⟩) n c) n xs) (j : Nat) (x : Value) : (w.setCell ⟨g, j, none⟩ x).ownsRow B e s (.slice (some ⟨g, 0, none⟩) n c) n (xs.set j x) := by
  obtain ⟨hl, ⟨e0, _⟩ | ⟨g', cap, cur, e0, hb, hg, hnc, hm, hcs, ht⟩⟩ := h
  · cases e0
  · simp only [Value.slice.injEq, Option.some.injEq, Addr.mk.injEq, and_true, true_and] at e0
    obtain ⟨rfl, rfl⟩ := e0
    exact ⟨by simpa using hl, .inr ⟨g, c, cur.setIfInBounds j x, rfl, hb, heap_setCell_same w g _ _ _ _ hg, hnc, hm, by simpa using hcs, by rw [Array.toList_setIfInBounds, List.take_set, ht]⟩⟩
theorem owns_nil (w : World) (B : Nat) (e : TypeId) (s : Nat) : w.ownsRow B e s (.slice none 0 0) 0 [] := ⟨by simp, .inl ⟨rfl, rfl⟩⟩
/-- The cells of an own row. -/
theorem owns_cells {w : World} {B : Nat} {e : TypeId} {s n : Nat} {v : Value} {xs : List Value} (h : w.ownsRow B e s v n xs) (hn : 0 < n) : ∃ g cap, v = .slice (some ⟨g, 0, none⟩) n cap ∧ n ≤ cap ∧ cap ≤ maxLen ∧ B ≤ g ∧ g < w.heap.size ∧ (∀ j u, xs[j]? = some u → w.cell? ⟨g, j, none⟩ = some u) ∧ ∀ j, w.frozen? ⟨g, j, none⟩ = false := by
  obtain ⟨hl, ⟨_, h0⟩ | ⟨g, cap, cur, rfl, hb, hg, hnc, hm, hcs, ht⟩⟩ := h
  · omega
  · refine ⟨g, cap, rfl, hnc, hm, hb, lt_of_block hg, fun j u hj => ?_, fun j => frozen_of_row w g j _ _ hg⟩
    rw [cell_of_row w g j _ _ _ hg]
    have hj2 : j < n * s := by rw [← hl]; exact (List.getElem?_eq_some_iff.1 hj).1
    rw [← ht, List.getElem?_take, if_pos hj2] at hj
    simpa using hj

/-! ### Numbers -/
theorem Try.infoInt : (Try.prog.info? 3).map (fun i => (i.zero, i.size, i.bytes)) = some (some (.int .i64 0), 1, 8) := by kernel_rfl
/-- The cells of a slice are these numbers. -/
def IntsIn (w : World) (a : Option Addr) (xs : List Int) : Prop :=
  ∀ k, k < xs.length → ∃ b off, a = some ⟨b, off, none⟩ ∧ w.cell? ⟨b, off + k, none⟩ = some (.int .i64 (xs.getD k 0))
theorem IntsIn.below {w w' : World} {a : Option Addr} {xs : List Int} (h : IntsIn w a xs) (hb : Below w.heap.size w w') : IntsIn w' a xs := fun k hk => by
  obtain ⟨b, off, rfl, hc⟩ := h k hk
  exact ⟨b, off, rfl, keep hc hb⟩
theorem IntsIn.nil (w : World) (a : Option Addr) : IntsIn w a [] := fun _ hk => absurd hk (Nat.not_lt_zero _)
def encI (xs : List Int) : List Value := xs.map fun x => .int .i64 x
theorem encI_len (xs : List Int) : (encI xs).length = xs.length := by simp [encI]
theorem encI_snoc (xs : List Int) (x : Int) : encI (xs ++ [x]) = encI xs ++ [.int .i64 x] := by simp [encI]
theorem encI_get {xs : List Int} {k : Nat} (h : k < xs.length) : (encI xs)[k]? = some (.int .i64 (xs.getD k 0)) := by
  simp [encI, List.getElem?_eq_getElem h, List.getD_eq_getElem?_getD]
theorem encI_one (xs : List Int) : ∀ u ∈ encI xs, u.oneCell' = true := fun u hu => by
  obtain ⟨x, _, rfl⟩ := List.mem_map.1 hu; rfl
theorem ints_of_owns {w : World} {base : Nat} {e : TypeId} {v : Value} {xs : List Int} (h : w.ownsRow base e 1 v xs.length (encI xs)) : ∃ a cap, v = .slice a xs.length cap ∧ xs.length ≤ cap ∧ IntsIn w a xs := by
  by_cases h0 : xs = []
  · subst h0
    obtain ⟨a, cap, rfl⟩ := owns_shape h
    exact ⟨a, cap, rfl, Nat.zero_le _, IntsIn.nil _ _⟩
  · obtain ⟨g, cap, rfl, hnc, _, _, _, hc, _⟩ := owns_cells h (List.length_pos_iff.2 h0)
    exact ⟨_, cap, rfl, hnc, fun k hk => ⟨g, 0, rfl, by rw [Nat.zero_add]; exact hc k _ (encI_get hk)⟩⟩

/-! ### Instructions -/
theorem Try.infoCode : (Try.prog.info? 68).map (fun i => (i.zero, i.size, i.bytes)) = some (some (.agg #[.int .i64 0, .int .i64 0, .int .i64 0, .int .i64 0, .int .u32 0, .int .i64 0]), 6, 48) := by kernel_rfl
/-- The six cells of an instruction. -/
structure CdAt (w : World) (b off : Nat) (x : Cd) : Prop where
  c0 : w.cell? ⟨b, off, none⟩ = some (.int .i64 x.op)
  c1 : w.cell? ⟨b, off + 1, none⟩ = some (.int .i64 x.d)
  c2 : w.cell? ⟨b, off + 2, none⟩ = some (.int .i64 x.a)
  c3 : w.cell? ⟨b, off + 3, none⟩ = some (.int .i64 x.b)
  c4 : w.cell? ⟨b, off + 4, none⟩ = some (.int .u32 x.im)
  c5 : w.cell? ⟨b, off + 5, none⟩ = some (.int .i64 x.to)
theorem CdAt.keep {w w' : World} {b off : Nat} {x : Cd} (h : CdAt w b off x) (hb : Below w.heap.size w w') : CdAt w' b off x :=
  ⟨PK.keep h.c0 hb, PK.keep h.c1 hb, PK.keep h.c2 hb, PK.keep h.c3 hb, PK.keep h.c4 hb, PK.keep h.c5 hb⟩
theorem cdAt_new (w : World) (x : Cd) (t : TypeId) : CdAt (w.alloc (.cells #[.int .i64 x.op, .int .i64 x.d, .int .i64 x.a, .int .i64 x.b, .int .u32 x.im, .int .i64 x.to] t)) w.heap.size 0 x := ⟨by simp [go_sem], by simp [go_sem], by simp [go_sem], by simp [go_sem], by simp [go_sem], by simp [go_sem]⟩
/-- The cells of a slice are these instructions. -/
def CdsIn (w : World) (a : Option Addr) (l : List Cd) : Prop :=
  ∀ k, k < l.length → ∃ b off, a = some ⟨b, off, none⟩ ∧ CdAt w b (off + k * 6) (atC l k)
theorem CdsIn.below {w w' : World} {a : Option Addr} {l : List Cd} (h : CdsIn w a l) (hb : Below w.heap.size w w') : CdsIn w' a l := fun k hk => by
  obtain ⟨b, off, rfl, hc⟩ := h k hk
  exact ⟨b, off, rfl, hc.keep hb⟩
theorem CdsIn.take {w : World} {a : Option Addr} {l : List Cd} (h : CdsIn w a l) (n : Nat) : CdsIn w a (l.take n) := fun k hk => by
  rw [List.length_take] at hk
  obtain ⟨b, off, rfl, hc⟩ := h k (by omega)
  exact ⟨b, off, rfl, by rw [atC_take (by omega)]; exact hc⟩
theorem CdsIn.nil (w : World) (a : Option Addr) : CdsIn w a [] := fun _ hk => absurd hk (Nat.not_lt_zero _)
def encC (l : List Cd) : List Value := l.flatMap fun x => [.int .i64 x.op, .int .i64 x.d, .int .i64 x.a, .int .i64 x.b, .int .u32 x.im, .int .i64 x.to]
theorem encC_len : ∀ l : List Cd, (encC l).length = l.length * 6
  | [] => rfl
  | p :: l => by
    have := encC_len l
    show (_ :: _ :: _ :: _ :: _ :: _ :: encC l).length = _
    simp only [List.length_cons, this]
    omega
theorem encC_snoc (l : List Cd) (x : Cd) : encC (l ++ [x]) = encC l ++ [.int .i64 x.op, .int .i64 x.d, .int .i64 x.a, .int .i64 x.b, .int .u32 x.im, .int .i64 x.to] := by simp [encC]
theorem encC_app (l m : List Cd) : encC (l ++ m) = encC l ++ encC m := by simp [encC]
theorem encC_get : ∀ (l : List Cd) (k : Nat), k < l.length → (encC l)[k * 6]? = some (.int .i64 (atC l k).op) ∧ (encC l)[k * 6 + 1]? = some (.int .i64 (atC l k).d) ∧ (encC l)[k * 6 + 2]? = some (.int .i64 (atC l k).a) ∧ (encC l)[k * 6 + 3]? = some (.int .i64 (atC l k).b) ∧ (encC l)[k * 6 + 4]? = some (.int .u32 (atC l k).im) ∧ (encC l)[k * 6 + 5]? = some (.int .i64 (atC l k).to)
  | p :: l, 0, _ => ⟨rfl, rfl, rfl, rfl, rfl, rfl⟩
  | p :: l, k + 1, h => by
    have ih := encC_get l k (by simpa using h)
    have e : ∀ j, (encC (p :: l))[(k + 1) * 6 + j]? = (encC l)[k * 6 + j]? := fun j => by
      show (_ :: _ :: _ :: _ :: _ :: _ :: encC l)[(k + 1) * 6 + j]? = _
      rw [show (k + 1) * 6 + j = k * 6 + j + 1 + 1 + 1 + 1 + 1 + 1 by omega]
      simp only [List.getElem?_cons_succ]
    have e0 := e 0
    simp only [Nat.add_zero] at e0
    rw [e0, e 1, e 2, e 3, e 4, e 5]
    exact ih
theorem encC_one (l : List Cd) : ∀ u ∈ encC l, u.oneCell' = true := by
  intro u hu
  obtain ⟨p, _, hu⟩ := List.mem_flatMap.1 hu
  simp only [List.mem_cons, List.not_mem_nil, or_false] at hu
  rcases hu with rfl | rfl | rfl | rfl | rfl | rfl <;> rfl
theorem cds_of_cells {w : World} {g : Nat} {l : List Cd} (hc : ∀ j u, (encC l)[j]? = some u → w.cell? ⟨g, j, none⟩ = some u) : CdsIn w (some ⟨g, 0, none⟩) l := fun k hk => by
  obtain ⟨e0, e1, e2, e3, e4, e5⟩ := encC_get l k hk
  refine ⟨g, 0, rfl, ?_⟩
  rw [Nat.zero_add]
  exact ⟨hc _ _ e0, hc _ _ e1, hc _ _ e2, hc _ _ e3, hc _ _ e4, hc _ _ e5⟩
theorem cds_of_owns {w : World} {base : Nat} {e : TypeId} {v : Value} {l : List Cd} (h : w.ownsRow base e 6 v l.length (encC l)) : ∃ a cap, v = .slice a l.length cap ∧ l.length ≤ cap ∧ CdsIn w a l := by
  by_cases h0 : l = []
  · subst h0
    obtain ⟨a, cap, rfl⟩ := owns_shape h
    exact ⟨a, cap, rfl, Nat.zero_le _, CdsIn.nil _ _⟩
  · obtain ⟨g, cap, rfl, hnc, _, _, _, hc, _⟩ := owns_cells h (List.length_pos_iff.2 h0)
    exact ⟨_, cap, rfl, hnc, cds_of_cells hc⟩
theorem cds_cells {w : World} {b off : Nat} {l : List Cd} (h : CdsIn w (some ⟨b, off, none⟩) l) : ∀ j u, (encC l)[j]? = some u → w.cell? ⟨b, off + j, none⟩ = some u := by
  intro j u hj
  have hjl : j < l.length * 6 := by
    rw [← encC_len]
    exact (List.getElem?_eq_some_iff.1 hj).1
  obtain ⟨b', o', e, hp⟩ := h (j / 6) (by omega)
  simp only [Option.some.injEq, Addr.mk.injEq, and_true] at e
  obtain ⟨rfl, rfl⟩ := e
  obtain ⟨e0, e1, e2, e3, e4, e5⟩ := encC_get l (j / 6) (by omega)
  obtain ⟨c0, c1, c2, c3, c4, c5⟩ := hp
  have hr : j % 6 = 0 ∨ j % 6 = 1 ∨ j % 6 = 2 ∨ j % 6 = 3 ∨ j % 6 = 4 ∨ j % 6 = 5 := by omega
  rcases hr with h | h | h | h | h | h
  · rw [show j = j / 6 * 6 by omega, e0] at hj
    rw [show off + j = off + j / 6 * 6 by omega, c0, ← hj]
  · rw [show j = j / 6 * 6 + 1 by omega, e1] at hj
    rw [show off + j = off + j / 6 * 6 + 1 by omega, c1, ← hj]
  · rw [show j = j / 6 * 6 + 2 by omega, e2] at hj
    rw [show off + j = off + j / 6 * 6 + 2 by omega, c2, ← hj]
  · rw [show j = j / 6 * 6 + 3 by omega, e3] at hj
    rw [show off + j = off + j / 6 * 6 + 3 by omega, c3, ← hj]
  · rw [show j = j / 6 * 6 + 4 by omega, e4] at hj
    rw [show off + j = off + j / 6 * 6 + 4 by omega, c4, ← hj]
  · rw [show j = j / 6 * 6 + 5 by omega, e5] at hj
    rw [show off + j = off + j / 6 * 6 + 5 by omega, c5, ← hj]
end Go.Proofs.Ytjfpaelmcepidaa.PK
