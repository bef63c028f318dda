/- Packed of several texts. -/
import Derived.Test.YtbbbflnnbbaamaaGreatDoorProg
import Derived.WalkKit
import Derived.WalkSpells
import Derived.WalkLawsBesides
import Derived.BigQuiet
import Derived.Deep.QuietTactic
import Derived.Lib.Hide
import Derived.Laws.EntriesVeiled
import Derived.Laws.Rows
import Derived.OneCell
import Derived.Deep.OwnRows
namespace Go.Proofs.YtbbbflnnbbaamaaGreatDoor.FL

abbrev Gr := List (List Nat)
def succ (g : Gr) (v : Nat) : List Nat := g.getD v []
def Fits (g : Gr) : Prop := ∀ v x, x ∈ succ g v → x < g.length
structure OkG (g : Gr) : Prop where
 fits : Fits g
 pos : 0 < g.length
 ten : g.length ≤ 10
 deg : ∀ v, (succ g v).length ≤ 2
theorem succ_out {g : Gr} {v : Nat} (h : g.length ≤ v) : succ g v = [] := by
 unfold succ; rw [List.getD_eq_getElem?_getD, List.getElem?_eq_none h]; rfl
theorem lt_of_succ {g : Gr} {v x : Nat} (h : x ∈ succ g v) : v < g.length := by
 apply Nat.lt_of_not_le
 intro c
 rw [succ_out c] at h
 cases h

def ReachB (g : Gr) (but : Int) (s j : Nat) : Prop :=
 ∀ C : Nat → Prop, ((s : Int) ≠ but → C s) → (∀ u x, C u → x ∈ succ g u → (x : Int) ≠ but → C x) → C j
theorem ReachB.here {g : Gr} {but : Int} {s : Nat} (h : (s : Int) ≠ but) : ReachB g but s s := fun _ h0 _ => h0 h
theorem ReachB.step {g : Gr} {but : Int} {s u x : Nat} (h : ReachB g but s u) (hx : x ∈ succ g u) (hb : (x : Int) ≠ but) : ReachB g but s x :=
 fun C h0 h1 => h1 u x (h C h0 h1) hx hb
theorem ReachB.ind {g : Gr} {but : Int} {s j : Nat} (h : ReachB g but s j) (P : Nat → Prop) (h0 : (s : Int) ≠ but → P s)
  (h1 : ∀ u x, ReachB g but s u → P u → x ∈ succ g u → (x : Int) ≠ but → P x) : P j :=
 (h (fun x => ReachB g but s x ∧ P x) (fun c => ⟨.here c, h0 c⟩) (fun u x ⟨hu, pu⟩ hx hb => ⟨hu.step hx hb, h1 u x hu pu hx hb⟩)).2
theorem ReachB.start {g : Gr} {but : Int} {s x : Nat} (k : ReachB g but s x) : (s : Int) ≠ but := k.ind (fun _ => (s : Int) ≠ but) id (fun _ _ _ h _ _ => h)
theorem ReachB.trans {g : Gr} {but : Int} {s u x : Nat} (h : ReachB g but s u) (k : ReachB g but u x) : ReachB g but s x :=
 k.ind (ReachB g but s) (fun _ => h) (fun _ _ _ ih hx hb => ih.step hx hb)
theorem ReachB.head {g : Gr} {but : Int} {s u x : Nat} (hs : (s : Int) ≠ but) (hu : u ∈ succ g s) (k : ReachB g but u x) : ReachB g but s x :=
 ReachB.trans (.step (.here hs) hu k.start) k
theorem ReachB.lt {g : Gr} {but : Int} {s x : Nat} (hg : Fits g) (hs : s < g.length) (k : ReachB g but s x) : x < g.length :=
 k.ind (· < g.length) (fun _ => hs) (fun _ _ _ _ hx _ => hg _ _ hx)

abbrev NSet := Nat → Bool
def mark (S : NSet) (v : Nat) : NSet := fun j => S j || decide (j = v)
theorem mark_self (S : NSet) (v : Nat) : mark S v v = true := by simp [mark]
theorem mark_of {S : NSet} {v j : Nat} (h : S j = true) : mark S v j = true := by simp [mark, h]
theorem mark_cases {S : NSet} {v j : Nat} (h : mark S v j = true) : S j = true ∨ j = v := by simpa [mark] using h

def cnt (S : NSet) : Nat := ((List.range 10).filter fun j => !S j).length
theorem cnt_le {S T : NSet} (h : ∀ j, S j = true → T j = true) : cnt T ≤ cnt S := by
 unfold cnt
 rw [← List.countP_eq_length_filter, ← List.countP_eq_length_filter]
 exact List.countP_mono_left fun j _ hj => by
  have : T j = false := by simpa using hj
  simp only [Bool.not_eq_true']
  rw [← Bool.not_eq_true]
  intro c; rw [h j c] at this; cases this
theorem countP_lt {l : List Nat} {p q : Nat → Bool} (h : ∀ j ∈ l, p j = true → q j = true) {v : Nat} (hv : v ∈ l) (h1 : q v = true) (h2 : p v = false) : l.countP p < l.countP q := by
 induction l with
 | nil => cases hv
 | cons x l ih =>
  rw [List.countP_cons, List.countP_cons]
  have hm : l.countP p ≤ l.countP q := List.countP_mono_left fun j hj => h j (by simp [hj])
  rcases List.mem_cons.1 hv with rfl | hv'
  ·rw [h1, h2]; simp; omega
  ·have := ih (fun j hj => h j (by simp [hj])) hv'
   by_cases hp : p x = true
   ·rw [hp, h x (by simp) hp]; simp; omega
   ·simp only [hp]; simp; omega
theorem cnt_mark {S : NSet} {v : Nat} (hv : v < 10) (h : S v = false) : cnt (mark S v) < cnt S := by
 unfold cnt
 rw [← List.countP_eq_length_filter, ← List.countP_eq_length_filter]
 exact countP_lt (v := v) (fun j _ hj => by
  have : mark S v j = false := by simpa using hj
  simp only [Bool.not_eq_true']
  rw [← Bool.not_eq_true]
  intro c; rw [mark_of c] at this; cases this) (by simpa using hv) (by simp [h]) (by simp [mark_self])
theorem cnt_ten (S : NSet) : cnt S ≤ 10 := by
 unfold cnt
 exact Nat.le_trans (List.length_filter_le _ _) (by simp)

structure Dfs (g : Gr) (but : Int) (v : Nat) (S S' : NSet) : Prop where
 sub : ∀ j, S j = true → S' j = true
 new : ∀ j, S' j = true → S j = true ∨ ReachB g but v j
 top : (v : Int) ≠ but → S' v = true
 closed : ∀ u, S' u = true → S u = false → ∀ x ∈ succ g u, (x : Int) ≠ but → S' x = true
structure DfsL (g : Gr) (but : Int) (v : Nat) (k : Nat) (S S' : NSet) : Prop where
 sub : ∀ j, S j = true → S' j = true
 new : ∀ j, S' j = true → S j = true ∨ ReachB g but v j
 done : ∀ i, i < k → ((succ g v).getD i 0 : Int) ≠ but → S' ((succ g v).getD i 0) = true
 closed : ∀ u, S' u = true → S u = false → ∀ x ∈ succ g u, (x : Int) ≠ but → S' x = true
theorem Dfs.but {g : Gr} {but : Int} {v : Nat} {S : NSet} (h : (v : Int) = but) : Dfs g but v S S :=
 ⟨fun _ h => h, fun _ h => .inl h, fun c => absurd h c, fun u hu hn => by rw [hu] at hn; cases hn⟩
theorem Dfs.seen {g : Gr} {but : Int} {v : Nat} {S : NSet} (h : S v = true) : Dfs g but v S S :=
 ⟨fun _ h => h, fun _ h => .inl h, fun _ => h, fun u hu hn => by rw [hu] at hn; cases hn⟩
theorem DfsL.zero {g : Gr} {but : Int} {v : Nat} {S : NSet} : DfsL g but v 0 S S :=
 ⟨fun _ h => h, fun _ h => .inl h, fun i hi => absurd hi (Nat.not_lt_zero _), fun u hu hn => by rw [hu] at hn; cases hn⟩
theorem getD_mem {l : List Nat} {k : Nat} (h : k < l.length) : l.getD k 0 ∈ l := by
 rw [List.getD_eq_getElem?_getD, List.getElem?_eq_getElem h]; simp
theorem DfsL.next {g : Gr} {but : Int} {v k : Nat} {S S' S'' : NSet} (h : DfsL g but v k S S') (hv : (v : Int) ≠ but) (hk : k < (succ g v).length)
  (d : Dfs g but ((succ g v).getD k 0) S' S'') : DfsL g but v (k + 1) S S'' := by
 refine ⟨fun j hj => d.sub j (h.sub j hj), fun j hj => ?_, fun i hi hb => ?_, fun u hu hn x hx hb => ?_⟩
 ·rcases d.new j hj with c | c
  ·exact h.new j c
  ·exact .inr (ReachB.head hv (getD_mem hk) c)
 ·rcases Nat.lt_or_ge i k with c | c
  ·exact d.sub _ (h.done i c hb)
  ·obtain rfl : i = k := by omega
   exact d.top hb
 ·by_cases c : S' u = true
  ·exact d.sub _ (h.closed u c hn x hx hb)
  ·exact d.closed u hu (by simpa using c) x hx hb
theorem DfsL.fin {g : Gr} {but : Int} {v : Nat} {S S' : NSet} (hv : (v : Int) ≠ but) (h : DfsL g but v (succ g v).length (mark S v) S') : Dfs g but v S S' := by
 refine ⟨fun j hj => h.sub j (mark_of hj), fun j hj => ?_, fun _ => h.sub v (mark_self S v), fun u hu hn x hx hb => ?_⟩
 ·rcases h.new j hj with c | c
  ·rcases mark_cases c with c | rfl
   ·exact .inl c
   ·exact .inr (.here hv)
  ·exact .inr c
 ·by_cases c : mark S v u = true
  ·rcases mark_cases c with c | rfl
   ·rw [c] at hn; cases hn
   ·obtain ⟨i, hi, rfl⟩ := List.mem_iff_getElem.1 hx
    have := h.done i hi
    rw [List.getD_eq_getElem?_getD, List.getElem?_eq_getElem hi] at this
    exact this hb
  ·exact h.closed u hu (by simpa using c) x hx hb

noncomputable def rs (g : Gr) (but : Int) (s : Nat) : NSet := fun j => @decide (ReachB g but s j) (Classical.propDecidable _)
theorem rs_iff {g : Gr} {but : Int} {s j : Nat} : rs g but s j = true ↔ ReachB g but s j := by
 unfold rs; exact @decide_eq_true_iff _ (Classical.propDecidable _)
theorem Dfs.all {g : Gr} {but : Int} {s : Nat} {S' : NSet} (h : Dfs g but s (fun _ => false) S') : S' = rs g but s := by
 funext j
 rw [Bool.eq_iff_iff, rs_iff]
 constructor
 ·intro hj
  rcases h.new j hj with c | c
  ·cases c
  ·exact c
 ·intro hr
  exact hr.ind (fun x => S' x = true) h.top (fun u x _ hu hx hb => h.closed u hu rfl x hx hb)
end Go.Proofs.YtbbbflnnbbaamaaGreatDoor.FL


namespace Go.Proofs.YtbbbflnnbbaamaaGreatDoor.FL

def cntN (n : Nat) (S : NSet) : Nat := ((List.range n).filter fun j => !S j).length
structure Bfs (g : Gr) (but : Int) (s : Nat) (k i : Nat) (xs : List Nat) (S : NSet) : Prop where
 mem : ∀ j, S j = true ↔ j ∈ xs
 new : ∀ j, j ∈ xs → ReachB g but s j
 first : s ∈ xs
 done : ∀ m, m < k → ∀ x ∈ succ g (xs.getD m 0), (x : Int) ≠ but → x ∈ xs
 part : ∀ m, m < i → ((succ g (xs.getD k 0)).getD m 0 : Int) ≠ but → (succ g (xs.getD k 0)).getD m 0 ∈ xs
 count : xs.length + cntN g.length S ≤ g.length
 here : k ≤ xs.length
 inner : 0 < i → k < xs.length
theorem rs_none {g : Gr} {but : Int} {s : Nat} (h : (s : Int) = but) : rs g but s = fun _ => false := by
 funext j
 rw [← Bool.not_eq_true, rs_iff]
 intro c
 exact c.start h
end Go.Proofs.YtbbbflnnbbaamaaGreatDoor.FL


namespace Go.Proofs.YtbbbflnnbbaamaaGreatDoor.FL
open Go.RowKit

theorem ret_bool {a b : Bool} (h : a = b) : Ending.returned (.bool a) = .returned (.bool b) := by rw [h]
theorem ret_int {k : IntKind} {a b : Int} (h : a = b) : Ending.returned (.int k a) = .returned (.int k b) := by rw [h]
theorem ret_pair {k : IntKind} {a b : Int} {v : Value} (h : a = b) : Ending.returned (.tuple #[.int k a, v]) = .returned (.tuple #[.int k b, v]) := by rw [h]
theorem bc {W w1 : World} (hb : Below W.heap.size W w1) {b : Nat} (h : b < W.heap.size) : ∀ j, w1.cell? ⟨b, j, none⟩ = W.cell? ⟨b, j, none⟩ :=
 fun j => hb.cell (p := ⟨b, j, none⟩) h

def IntsIn (w : World) (a : Option Addr) (xs : List Int) : Prop :=
 ∀ k, k < xs.length → ∃ b off, a = some ⟨b, off, none⟩ ∧ w.cell? ⟨b, off + k, none⟩ = some (.int .i64 (xs.getD k 0))
def NatsIn (w : World) (a : Option Addr) (xs : List Nat) : Prop :=
 ∀ k, k < xs.length → ∃ b off, a = some ⟨b, off, none⟩ ∧ w.cell? ⟨b, off + k, none⟩ = some (.int .i64 (xs.getD k 0 : Nat))
def RowsIn (w : World) (a : Option Addr) (g : List (List Int)) : Prop :=
 ∀ k, k < g.length → ∃ b off a' cap, a = some ⟨b, off, none⟩ ∧ w.cell? ⟨b, off + k, none⟩ = some (.slice a' (g.getD k []).length cap) ∧ IntsIn w a' (g.getD k [])
def GraphIn (w : World) (a : Option Addr) (g : Gr) : Prop :=
 ∀ k, k < g.length → ∃ b off a' cap, a = some ⟨b, off, none⟩ ∧ w.cell? ⟨b, off + k, none⟩ = some (.slice a' (succ g k).length cap) ∧ NatsIn w a' (succ g k)
theorem keep {w w' : World} {b off : Nat} {v : Value} (h : w.cell? ⟨b, off, none⟩ = some v) (hb : Below w.heap.size w w') : w'.cell? ⟨b, off, none⟩ = some v := by
 rw [hb.cell (p := ⟨b, off, none⟩) (block_lt_of_cell h)]; exact h
theorem IntsIn.below {w w' : World} {a : Option Addr} {xs : List Int} (h : IntsIn w a xs) (hb : Below w.heap.size w w') : IntsIn w' a xs := fun k hk => by
 obtain ⟨b, off, rfl, hc⟩ := h k hk
 exact ⟨b, off, rfl, keep hc hb⟩
theorem NatsIn.below {w w' : World} {a : Option Addr} {xs : List Nat} (h : NatsIn w a xs) (hb : Below w.heap.size w w') : NatsIn w' a xs := fun k hk => by
 obtain ⟨b, off, rfl, hc⟩ := h k hk
 exact ⟨b, off, rfl, keep hc hb⟩
theorem RowsIn.below {w w' : World} {a : Option Addr} {g : List (List Int)} (h : RowsIn w a g) (hb : Below w.heap.size w w') : RowsIn w' a g := fun k hk => by
 obtain ⟨b, off, a', cap, rfl, hc, hi⟩ := h k hk
 exact ⟨b, off, a', cap, rfl, keep hc hb, hi.below hb⟩
theorem GraphIn.below {w w' : World} {a : Option Addr} {g : Gr} (h : GraphIn w a g) (hb : Below w.heap.size w w') : GraphIn w' a g := fun k hk => by
 obtain ⟨b, off, a', cap, rfl, hc, hi⟩ := h k hk
 exact ⟨b, off, a', cap, rfl, keep hc hb, hi.below hb⟩

theorem heap_at (w : World) (o : Obj) (n : Nat) (h : n = w.heap.size) : (w.alloc o).heap[n]? = some o := by subst h; exact heap_alloc_new w o
theorem heap_past (w : World) (o : Obj) (n : Nat) (h : n < w.heap.size) : (w.alloc o).heap[n]? = w.heap[n]? := Below.heap_alloc w o n h
def bools (S : NSet) : Array Value := #[.bool (S 0), .bool (S 1), .bool (S 2), .bool (S 3), .bool (S 4), .bool (S 5), .bool (S 6), .bool (S 7), .bool (S 8), .bool (S 9)]
theorem bools_get (S : NSet) (k : Nat) (h : k < 10) : (bools S)[k]? = some (.bool (S k)) := by
 have : k = 0 ∨ k = 1 ∨ k = 2 ∨ k = 3 ∨ k = 4 ∨ k = 5 ∨ k = 6 ∨ k = 7 ∨ k = 8 ∨ k = 9 := by omega
 rcases this with rfl | rfl | rfl | rfl | rfl | rfl | rfl | rfl | rfl | rfl <;> rfl
theorem bools_set (S : NSet) (v : Nat) (b : Bool) (h : v < 10) : (bools S).setIfInBounds v (.bool b) = bools (fun j => if j = v then b else S j) := by
 have : v = 0 ∨ v = 1 ∨ v = 2 ∨ v = 3 ∨ v = 4 ∨ v = 5 ∨ v = 6 ∨ v = 7 ∨ v = 8 ∨ v = 9 := by omega
 rcases this with rfl | rfl | rfl | rfl | rfl | rfl | rfl | rfl | rfl | rfl <;> rfl
theorem bools_mark (S : NSet) (v : Nat) (h : v < 10) : (bools S).setIfInBounds v (.bool true) = bools (mark S v) := by
 rw [bools_set S v true h]
 congr 1
 funext j
 unfold mark
 by_cases c : j = v
 ·simp [c]
 ·simp [c]
def Ten (w : World) (q : Nat) (S : NSet) : Prop := w.heap[q]? = some (.cells (bools S) 123 (0, 0))
theorem Ten.cell {w : World} {q : Nat} {S : NSet} (h : Ten w q S) {k : Nat} (hk : k < 10) : w.cell? ⟨q, k, none⟩ = some (.bool (S k)) := by
 rw [cell_of_row w q k _ _ _ h]; exact bools_get S k hk
theorem Ten.free {w : World} {q : Nat} {S : NSet} (h : Ten w q S) (k : Nat) : w.frozen? ⟨q, k, none⟩ = false := frozen_of_row w q k _ _ h
theorem Ten.lt {w : World} {q : Nat} {S : NSet} (h : Ten w q S) : q < w.heap.size := lt_of_block h
theorem Ten.set {w : World} {q : Nat} {S : NSet} (h : Ten w q S) {v : Nat} (hv : v < 10) (b : Bool) : Ten (w.setCell ⟨q, v, none⟩ (.bool b)) q (fun j => if j = v then b else S j) := by
 unfold Ten
 rw [heap_setCell_same w q v _ _ _ h, bools_set S v b hv]
theorem Ten.mark {w : World} {q : Nat} {S : NSet} (h : Ten w q S) {v : Nat} (hv : v < 10) : Ten (w.setCell ⟨q, v, none⟩ (.bool true)) q (mark S v) := by
 unfold Ten
 rw [heap_setCell_same w q v _ _ _ h, bools_mark S v hv]
theorem Ten.below {w w' : World} {q : Nat} {S : NSet} (h : Ten w q S) (hb : Below w.heap.size w w') : Ten w' q S := by
 unfold Ten; rw [hb.block q h.lt]; exact h

structure Touch (q : Nat) (w w' : World) : Prop where
 os : w'.os = w.os
 tape : w'.tape = w.tape
 output : w'.output = w.output
 size : w'.heap.size = w.heap.size
 block : ∀ k, k ≠ q → w'.heap[k]? = w.heap[k]?
theorem Touch.refl (q : Nat) (w : World) : Touch q w w := ⟨rfl, rfl, rfl, rfl, fun _ _ => rfl⟩
theorem Touch.trans {q : Nat} {a b c : World} (h : Touch q a b) (k : Touch q b c) : Touch q a c :=
 ⟨k.os.trans h.os, k.tape.trans h.tape, k.output.trans h.output, k.size.trans h.size, fun i hi => (k.block i hi).trans (h.block i hi)⟩
theorem Touch.set (w : World) (q v : Nat) (x : Value) : Touch q w (w.setCell ⟨q, v, none⟩ x) :=
 ⟨rfl, rfl, rfl, by simp [World.setCell], fun k hk => Below.heap_setCell _ _ _ _ hk⟩
theorem Touch.cell {q : Nat} {w w' : World} (h : Touch q w w') {b : Nat} (hb : b ≠ q) (k : Nat) : w'.cell? ⟨b, k, none⟩ = w.cell? ⟨b, k, none⟩ :=
 World.cell?_of_block (w := w) (h.block b hb)
theorem Touch.below {q : Nat} {w w' : World} (h : Touch q w w') {B : Nat} (hq : B ≤ q) : Below B w w' :=
 ⟨h.os, h.tape, h.output, by rw [h.size]; exact Nat.le_refl _, fun k hk => h.block k (by omega)⟩
def tenV (S : NSet) : Value := .agg (bools S)
theorem results_ten {fn : Func} {p : Tmp} (h : fn.results = #[.cell p 123]) (tmps : Array Value) (w : World) (q : Nat) (S : NSet)
  (hp : tmps.getD p undef = .pointer (some ⟨q, 0, none⟩)) (T : Ten w q S) : (results fn tmps).run Tryz.prog w = .ok (tenV S) w :=
 results_cell_row h tmps w q _ _ _ _ hp T Tryz.underlying123 rfl (by kernel_rfl)
def fill (w : World) (q : Nat) (S : NSet) : World :=
 (((((((((w.setCell ⟨q, 0, none⟩ (.bool (S 0))).setCell ⟨q, 1, none⟩ (.bool (S 1))).setCell ⟨q, 2, none⟩ (.bool (S 2))).setCell ⟨q, 3, none⟩ (.bool (S 3))).setCell ⟨q, 4, none⟩ (.bool (S 4))).setCell
  ⟨q, 5, none⟩ (.bool (S 5))).setCell ⟨q, 6, none⟩ (.bool (S 6))).setCell ⟨q, 7, none⟩ (.bool (S 7))).setCell ⟨q, 8, none⟩ (.bool (S 8))).setCell ⟨q, 9, none⟩ (.bool (S 9))
theorem Ten.fill {w : World} {q : Nat} {S0 : NSet} (h : Ten w q S0) (S : NSet) : Ten (fill w q S) q S := by
 have h1 := (((((((((h.set (v := 0) (by decide) (S 0)).set (v := 1) (by decide) (S 1)).set (v := 2) (by decide) (S 2)).set (v := 3) (by decide) (S 3)).set (v := 4) (by decide) (S 4)).set
  (v := 5) (by decide) (S 5)).set (v := 6) (by decide) (S 6)).set (v := 7) (by decide) (S 7)).set (v := 8) (by decide) (S 8)).set (v := 9) (by decide) (S 9)
 exact h1
theorem Touch.fill (w : World) (q : Nat) (S : NSet) : Touch q w (fill w q S) := by
 unfold Proofs.YtbbbflnnbbaamaaGreatDoor.FL.fill
 exact (((((((((Touch.set w q 0 _).trans (Touch.set _ q 1 _)).trans (Touch.set _ q 2 _)).trans (Touch.set _ q 3 _)).trans (Touch.set _ q 4 _)).trans (Touch.set _ q 5 _)).trans (Touch.set _ q 6 _)).trans (Touch.set _ q 7 _)).trans (Touch.set _ q 8 _)).trans (Touch.set _ q 9 _)
end Go.Proofs.YtbbbflnnbbaamaaGreatDoor.FL


namespace Go.Proofs.YtbbbflnnbbaamaaGreatDoor.FL
open Go.RowKit

structure RCtx (W0 w : World) (pb q pg pv : Nat) (but : Int) (a : Option Addr) (n cap : Nat) : Prop where
 base : Below W0.heap.size W0 w
 hq : W0.heap.size ≤ q
 cb : w.cell? ⟨pb, 0, none⟩ = some (.int .i64 but)
 cg : w.cell? ⟨pg, 0, none⟩ = some (.slice a n cap)
 cv : w.cell? ⟨pv, 0, none⟩ = some (.func (.func 143) #[] #[.pointer (some ⟨pb, 0, none⟩), .pointer (some ⟨q, 0, none⟩), .pointer (some ⟨pg, 0, none⟩), .pointer (some ⟨pv, 0, none⟩)])
 nb : pb ≠ q
 ng : pg ≠ q
 nv : pv ≠ q
theorem RCtx.touch {W0 w w' : World} {pb q pg pv : Nat} {but : Int} {a : Option Addr} {n cap : Nat} (h : RCtx W0 w pb q pg pv but a n cap) (t : Touch q w w') : RCtx W0 w' pb q pg pv but a n cap :=
 ⟨h.base.trans (t.below h.hq), h.hq, by rw [t.cell h.nb]; exact h.cb, by rw [t.cell h.ng]; exact h.cg, by rw [t.cell h.nv]; exact h.cv, h.nb, h.ng, h.nv⟩

def VisitPost (g : Gr) (but : Int) (v : Nat) (S : NSet) (q : Nat) (w : World) (e : Ending) (w' : World) : Prop :=
 e = .returned (.tuple #[]) ∧ ∃ S', Dfs g but v S S' ∧ Ten w' q S' ∧ Touch q w w'

set_option maxRecDepth 100000 in
set_option maxHeartbeats 1000000 in
theorem visit_any (W0 : World) (pb q pg pv : Nat) (but : Int) (a : Option Addr) (cap : Nat) (g : Gr) (hg : GraphIn W0 a g) (ok : OkG g) (f : Nat) :
  ∀ (v : Nat) (S : NSet) (w : World), cnt S < f → v < g.length → RCtx W0 w pb q pg pv but a g.length cap → Ten w q S →
  Calls Tryz.prog 143 #[.int .i64 v, .pointer (some ⟨pb, 0, none⟩), .pointer (some ⟨q, 0, none⟩), .pointer (some ⟨pg, 0, none⟩), .pointer (some ⟨pv, 0, none⟩)] w (VisitPost g but v S q w) := by
 have hf := ok.fits; have hn := ok.ten
 induction f with
 | zero => intro v S w h; omega
 | succ f ih =>
  intro v S w hc hv C T
  have c1 := C.cb
  have c2 := T.cell (k := v) (by omega)
  have hv10 : v < 10 := by omega
  have hn' : (g.length : Int) ≤ 10 := by omega
  by_cases hb : (v : Int) = but
  ·have hbb : ((v : Int) == but) = true := by simpa using hb
   have HB := Lib.hid hb; clear hb
   have HT := Lib.hid T; have HC := Lib.hid C; clear T C ih hg
   go_enter Tryz.func143, Tryz.ntmps143
   go_wp2_with fail
   go_end0
   exact ⟨rfl, S, Dfs.but HB.out, HT.out, Touch.refl _ _⟩
  ·have hbb : ((v : Int) == but) = false := by simpa using hb
   cases hs : S v
   ·rw [hs] at c2
    have f1 := T.free v
    have hlt := cnt_mark hv10 hs
    have hb' := Lib.hid hb
    have IH := Lib.hid ih; clear ih
    have t1 := Touch.set w q v (.bool true)
    have C1 := C.touch t1
    have T1 := T.mark hv10
    have k1 := C1.cg
    obtain ⟨b, off, a', cap', rfl, hcell0, hrow⟩ := hg v hv
    have hcell := keep hcell0 C1.base
    have HR := Lib.hid hrow
    have HT := Lib.hid T1; have HC0 := Lib.hid C; have HTo := Lib.hid t1; have HG := Lib.hid hg; have HS := Lib.hid hs; have HL := Lib.hid hlt; have HCn := Lib.hid hc
    clear T C hg hb T1 C1 t1 hs hlt hc hrow hcell0
    go_enter Tryz.func143, Tryz.ntmps143
    go_wp2_with fail
    go_loopw [23] (fun i wr => ∃ (k : Nat) (Sk : NSet), k ≤ (succ g v).length ∧ i = .int .i64 k ∧ DfsL g but v k (mark S v) Sk ∧ Ten wr q Sk ∧ Touch q w wr) (fun i _ => (succ g v).length - (intOf i).toNat)
    case atStart => exact ⟨0, mark S v, Nat.zero_le _, rfl, DfsL.zero, HT.out, HTo.out⟩
    case round =>
     obtain ⟨k, Sk, hk, rfl, hd, hT, hTo⟩ := hrel
     have hdg := ok.deg v
     by_cases hlt : k < (succ g v).length
     ·have Ck := HC0.out.touch hTo
      have cv := Ck.cv
      obtain ⟨b2, off2, rfl, hx⟩ := HR.out.below Ck.base k hlt
      have hxl := hf v _ (getD_mem hlt)
      have hcnt : cnt Sk < f := by have := cnt_le hd.sub; have := HL.out; have := HCn.out; omega
      have HD := Lib.hid hd; have HK := Lib.hid Ck; have HTk := Lib.hid hT; have HTok := Lib.hid hTo
      clear hd Ck hT hTo
      have HX := Lib.hid (IH.out ((succ g v).getD k 0) Sk wr hcnt hxl HK.out HTk.out)
      generalize hxx : (succ g v).getD k 0 = x at *
      have HXX := Lib.hid hxx; clear hxx
      go_wp2_with (first | (go_at_call 143; refine HX.out.mono ?_; rintro e w2 ⟨rfl, S2, hd2, hT2, hTo2⟩))
      go_roundw
      case rel => exact ⟨k + 1, S2, by omega, by go_num, HD.out.next hb'.out hlt (by rw [HXX.out]; exact hd2), hT2, HTok.out.trans hTo2⟩
      case measure => simp [intOf]; omega
     ·obtain rfl : k = (succ g v).length := by omega
      go_wp2_with fail
      go_end0
      exact ⟨rfl, Sk, DfsL.fin hb'.out hd, hT, hTo⟩
   ·rw [hs] at c2
    have HS := Lib.hid hs
    have HT := Lib.hid T; have HC := Lib.hid C; clear T C ih hg hs hb
    go_enter Tryz.func143, Tryz.ntmps143
    go_wp2_with fail
    go_end0
    exact ⟨rfl, S, Dfs.seen HS.out, HT.out, Touch.refl _ _⟩

set_option maxRecDepth 100000 in
set_option maxHeartbeats 1000000 in
theorem reach_any (a : Option Addr) (cap : Nat) (g : Gr) (but : Int) (w : World) (hg : GraphIn w a g) (ok : OkG g) :
  Calls Tryz.prog 119 #[.slice a g.length cap, .int .i64 but] w fun e w' => e = .returned (tenV (rs g but 0)) ∧ Below w.heap.size w w' := by
 have hv := visit_any w (w.heap.size + 1) (w.heap.size + 1 + 1 + 1) w.heap.size (w.heap.size + 1 + 1 + 1 + 1) but a cap g hg ok 11 0 (fun _ => false)
 have HV := Lib.hid hv; clear hv
 have HG := Lib.hid hg; clear hg
 go_enter Tryz.func119, Tryz.ntmps119
 go_wp2_with fail
 refine (HV.out _ (by have := cnt_ten (fun _ => false); omega) ok.pos ⟨?_, ?_, ?_, ?_, ?_, ?_, ?_, ?_⟩ ?_).mono ?_
 ·exact (((((Below.refl _ _).alloc (Nat.le_refl _) _).alloc (by simp only [World.size_alloc]; omega) _).alloc (by simp only [World.size_alloc]; omega) _).alloc (by simp only [World.size_alloc]; omega) _).alloc (by simp only [World.size_alloc]; omega) _
 ·omega
 ·simp [go_sem]
 ·simp [go_sem]
 ·simp [go_sem]
 ·omega
 ·omega
 ·omega
 ·unfold Ten
  rw [heap_past _ _ _ (by simp only [World.size_alloc]; omega)]
  exact heap_at _ _ _ (by simp only [World.size_alloc])
 rintro e w2 ⟨rfl, S2, hd2, hT2, hTo2⟩
 have hD2 : Ten w2 (w.heap.size + 1 + 1) (fun _ => false) := by
  unfold Ten
  rw [hTo2.block _ (by omega)]
  rw [heap_past _ _ _ (by simp only [World.size_alloc]; omega), heap_past _ _ _ (by simp only [World.size_alloc]; omega)]
  exact heap_at _ _ _ (by simp only [World.size_alloc])
 have c0 := hT2.cell (k := 0) (by decide); have c1 := hT2.cell (k := 1) (by decide); have c2 := hT2.cell (k := 2) (by decide); have c3 := hT2.cell (k := 3) (by decide); have c4 := hT2.cell (k := 4) (by decide)
 have c5 := hT2.cell (k := 5) (by decide); have c6 := hT2.cell (k := 6) (by decide); have c7 := hT2.cell (k := 7) (by decide); have c8 := hT2.cell (k := 8) (by decide); have c9 := hT2.cell (k := 9) (by decide)
 have d0 := hD2.cell (k := 0) (by decide); have d1 := hD2.cell (k := 1) (by decide); have d2 := hD2.cell (k := 2) (by decide); have d3 := hD2.cell (k := 3) (by decide); have d4 := hD2.cell (k := 4) (by decide)
 have d5 := hD2.cell (k := 5) (by decide); have d6 := hD2.cell (k := 6) (by decide); have d7 := hD2.cell (k := 7) (by decide); have d8 := hD2.cell (k := 8) (by decide); have d9 := hD2.cell (k := 9) (by decide)
 have f0 := hD2.free 0; have f1 := hD2.free 1; have f2 := hD2.free 2; have f3 := hD2.free 3; have f4 := hD2.free 4
 have f5 := hD2.free 5; have f6 := hD2.free 6; have f7 := hD2.free 7; have f8 := hD2.free 8; have f9 := hD2.free 9
 have HT2 := Lib.hid hT2; have HD2 := Lib.hid hD2; have HTo2 := Lib.hid hTo2; have Hd2 := Lib.hid hd2; clear hT2 hD2 hTo2 hd2
 go_wp2_with fail
 have T3 := HD2.out.fill S2
 have To3 := Touch.fill w2 (w.heap.size + 1 + 1) S2
 show bodyPost _ _ _ _ _ (fill w2 (w.heap.size + 1 + 1) S2)
 generalize fill w2 (w.heap.size + 1 + 1) S2 = w3 at *
 refine bodyPost_ret (v := tenV S2) (results_ten (p := 4) rfl _ _ _ _ rfl T3) rfl ⟨by rw [Hd2.out.all], ?_⟩
 refine Below.trans ?_ (To3.below (by omega))
 refine Below.trans ?_ (HTo2.out.below (by omega))
 exact (((((Below.refl _ _).alloc (Nat.le_refl _) _).alloc (by simp only [World.size_alloc]; omega) _).alloc (by simp only [World.size_alloc]; omega) _).alloc (by simp only [World.size_alloc]; omega) _).alloc (by simp only [World.size_alloc]; omega) _
end Go.Proofs.YtbbbflnnbbaamaaGreatDoor.FL


namespace Go.Proofs.YtbbbflnnbbaamaaGreatDoor.FL
open Go.RowKit

def NatSl (w : World) (v : Value) (xs : List Nat) : Prop := ∃ a cap, v = .slice a xs.length cap ∧ NatsIn w a xs
def encN (xs : List Nat) : List Value := xs.map fun x => .int .i64 (x : Nat)
theorem natSl_of_owns {w : World} {base : Nat} {e : TypeId} {v : Value} {xs : List Nat} (h : w.ownsRow base e 1 v xs.length (encN xs)) : NatSl w v xs := by
 obtain ⟨_, h | ⟨g, cap, cur, rfl, hb, hg, hnc, hm, hcs, ht⟩⟩ := h
 ·obtain ⟨rfl, h0⟩ := h
  have : xs = [] := List.length_eq_zero_iff.1 h0
  subst this
  exact ⟨none, 0, rfl, fun k hk => absurd hk (Nat.not_lt_zero _)⟩
 ·refine ⟨_, cap, rfl, fun k hk => ⟨g, 0, rfl, ?_⟩⟩
  rw [Nat.zero_add, cell_of_row w g k _ _ _ hg]
  have : (encN xs)[k]? = some (.int .i64 (xs.getD k 0 : Nat)) := by
   simp [encN, List.getElem?_eq_getElem hk, List.getD_eq_getElem?_getD]
  rw [← ht, List.getElem?_take, if_pos (by omega)] at this
  simpa using this

def setUpto (S : NSet) (k : Nat) : List Nat := (List.range k).filter S
def setL (S : NSet) : List Nat := setUpto S 10
theorem setUpto_yes {S : NSet} {k : Nat} (h : S k = true) : setUpto S (k + 1) = setUpto S k ++ [k] := by simp [setUpto, List.range_succ, List.filter_append, h]
theorem setUpto_no {S : NSet} {k : Nat} (h : S k = false) : setUpto S (k + 1) = setUpto S k := by simp [setUpto, List.range_succ, List.filter_append, h]
theorem setUpto_len (S : NSet) (k : Nat) : (setUpto S k).length ≤ k := by
 unfold setUpto; exact Nat.le_trans (List.length_filter_le _ _) (by simp)
theorem ix0 (S : NSet) (w : World) : (Instr.index 123 (.agg #[.bool (S 0), .bool (S 1), .bool (S 2), .bool (S 3), .bool (S 4), .bool (S 5), .bool (S 6), .bool (S 7), .bool (S 8), .bool (S 9)]) (.int .i64 ((0 : Nat) : Int))).run Tryz.prog w = .ok (.bool (S 0)) w := by kernel_rfl
theorem ix1 (S : NSet) (w : World) : (Instr.index 123 (.agg #[.bool (S 0), .bool (S 1), .bool (S 2), .bool (S 3), .bool (S 4), .bool (S 5), .bool (S 6), .bool (S 7), .bool (S 8), .bool (S 9)]) (.int .i64 ((1 : Nat) : Int))).run Tryz.prog w = .ok (.bool (S 1)) w := by kernel_rfl
theorem ix2 (S : NSet) (w : World) : (Instr.index 123 (.agg #[.bool (S 0), .bool (S 1), .bool (S 2), .bool (S 3), .bool (S 4), .bool (S 5), .bool (S 6), .bool (S 7), .bool (S 8), .bool (S 9)]) (.int .i64 ((2 : Nat) : Int))).run Tryz.prog w = .ok (.bool (S 2)) w := by kernel_rfl
theorem ix3 (S : NSet) (w : World) : (Instr.index 123 (.agg #[.bool (S 0), .bool (S 1), .bool (S 2), .bool (S 3), .bool (S 4), .bool (S 5), .bool (S 6), .bool (S 7), .bool (S 8), .bool (S 9)]) (.int .i64 ((3 : Nat) : Int))).run Tryz.prog w = .ok (.bool (S 3)) w := by kernel_rfl
theorem ix4 (S : NSet) (w : World) : (Instr.index 123 (.agg #[.bool (S 0), .bool (S 1), .bool (S 2), .bool (S 3), .bool (S 4), .bool (S 5), .bool (S 6), .bool (S 7), .bool (S 8), .bool (S 9)]) (.int .i64 ((4 : Nat) : Int))).run Tryz.prog w = .ok (.bool (S 4)) w := by kernel_rfl
theorem ix5 (S : NSet) (w : World) : (Instr.index 123 (.agg #[.bool (S 0), .bool (S 1), .bool (S 2), .bool (S 3), .bool (S 4), .bool (S 5), .bool (S 6), .bool (S 7), .bool (S 8), .bool (S 9)]) (.int .i64 ((5 : Nat) : Int))).run Tryz.prog w = .ok (.bool (S 5)) w := by kernel_rfl
theorem ix6 (S : NSet) (w : World) : (Instr.index 123 (.agg #[.bool (S 0), .bool (S 1), .bool (S 2), .bool (S 3), .bool (S 4), .bool (S 5), .bool (S 6), .bool (S 7), .bool (S 8), .bool (S 9)]) (.int .i64 ((6 : Nat) : Int))).run Tryz.prog w = .ok (.bool (S 6)) w := by kernel_rfl
theorem ix7 (S : NSet) (w : World) : (Instr.index 123 (.agg #[.bool (S 0), .bool (S 1), .bool (S 2), .bool (S 3), .bool (S 4), .bool (S 5), .bool (S 6), .bool (S 7), .bool (S 8), .bool (S 9)]) (.int .i64 ((7 : Nat) : Int))).run Tryz.prog w = .ok (.bool (S 7)) w := by kernel_rfl
theorem ix8 (S : NSet) (w : World) : (Instr.index 123 (.agg #[.bool (S 0), .bool (S 1), .bool (S 2), .bool (S 3), .bool (S 4), .bool (S 5), .bool (S 6), .bool (S 7), .bool (S 8), .bool (S 9)]) (.int .i64 ((8 : Nat) : Int))).run Tryz.prog w = .ok (.bool (S 8)) w := by kernel_rfl
theorem ix9 (S : NSet) (w : World) : (Instr.index 123 (.agg #[.bool (S 0), .bool (S 1), .bool (S 2), .bool (S 3), .bool (S 4), .bool (S 5), .bool (S 6), .bool (S 7), .bool (S 8), .bool (S 9)]) (.int .i64 ((9 : Nat) : Int))).run Tryz.prog w = .ok (.bool (S 9)) w := by kernel_rfl
theorem index_ten (S : NSet) (k : Nat) (hk : k < 10) (w : World) :
  (Instr.index 123 (.agg #[.bool (S 0), .bool (S 1), .bool (S 2), .bool (S 3), .bool (S 4), .bool (S 5), .bool (S 6), .bool (S 7), .bool (S 8), .bool (S 9)]) (.int .i64 k)).run Tryz.prog w = .ok (.bool (S k)) w := by
 have : k = 0 ∨ k = 1 ∨ k = 2 ∨ k = 3 ∨ k = 4 ∨ k = 5 ∨ k = 6 ∨ k = 7 ∨ k = 8 ∨ k = 9 := by omega
 rcases this with rfl | rfl | rfl | rfl | rfl | rfl | rfl | rfl | rfl | rfl
 ·exact ix0 S w
 ·exact ix1 S w
 ·exact ix2 S w
 ·exact ix3 S w
 ·exact ix4 S w
 ·exact ix5 S w
 ·exact ix6 S w
 ·exact ix7 S w
 ·exact ix8 S w
 ·exact ix9 S w
theorem Tryz.infoInt : (Tryz.prog.info? 3).map (fun i => (i.zero, i.size, i.bytes)) = some (some (.int .i64 0), 1, 8) := by kernel_rfl
theorem one_int {k : Int} : ∀ u ∈ [Value.int .i64 k], u.oneCell' = true := by simp [Value.oneCell']
theorem encN_snoc (xs : List Nat) (x : Nat) : encN (xs ++ [x]) = encN xs ++ [.int .i64 (x : Nat)] := by simp [encN]

set_option maxRecDepth 100000 in
set_option maxHeartbeats 1000000 in
theorem list_any (S : NSet) (w : World) :
  Calls Tryz.prog 74 #[tenV S] w fun e w' => ∃ v, e = .returned v ∧ NatSl w' v (setL S) ∧ Below w.heap.size w w' := by
 unfold tenV bools
 obtain ⟨i0, hi, hz0, hz1, hz2⟩ := info_parts Tryz.infoInt
 go_enter Tryz.func74, Tryz.ntmps74
 go_wp2_with fail
 go_loopw [3, 7] (fun v i wr => ∃ k : Nat, k ≤ 10 ∧ i = .int .i64 k ∧ wr.ownsRow w.heap.size 3 1 v (setUpto S k).length (encN (setUpto S k)) ∧ Below w.heap.size w wr) (fun _ i _ => 10 - (intOf i).toNat)
 case atStart => exact ⟨0, Nat.zero_le _, rfl, World.ownsRow_nil _ _ _ _, (Below.refl _ _).alloc (Nat.le_refl _) _⟩
 case round =>
  rename_i v _
  obtain ⟨k, hk, rfl, hown, hb⟩ := hrel
  by_cases hlt : k < 10
  ·have hix := index_ten S k hlt
   have HB := Lib.hid hb; clear hb
   have hsl := setUpto_len S k
   cases hs : S k
   ·rw [hs] at hix
    have HS := Lib.hid (setUpto_no hs); clear hs
    have HO := Lib.hid hown; clear hown
    go_wp2_with fail
    go_roundw
    case rel => exact ⟨k + 1, by omega, by go_num, by rw [HS.out]; exact HO.out, HB.out⟩
    case measure => simp [intOf]; omega
   ·rw [hs] at hix
    have HS := Lib.hid (setUpto_yes hs); clear hs
    go_wp2_with (at_builtin; refine wpList_append_own _ rfl _ _ 28 rfl w.heap.size 3 i0 (.int .i64 0) 1 8 Tryz.underlying28 hi hz0 hz1 hz2 rfl (by decide) _ _ _ rfl (hown.alloc _) ⟨wr.heap.size, 0, none⟩ 1 1 [.int .i64 k] rfl rfl (cell_one_new _ _ _) one_int (by unfold maxLen; omega) (by omega) (by have := HB.out.size; simp; omega) ?_; intro v' w1 hown' hgrow _)
    have hb1 := (HB.out.alloc HB.out.size _).grown hgrow (by have := HB.out.size; simp; omega) (fun k hk => (hown.lt k hk).1)
    have HO := Lib.hid hown'
    have HB1 := Lib.hid hb1
    clear hown hown' hgrow hb1
    go_wp2_with fail
    go_roundw
    case rel => exact ⟨k + 1, by omega, by go_num, by rw [HS.out, encN_snoc, List.length_append]; exact HO.out, HB1.out⟩
    case measure => simp [intOf]; omega
  ·obtain rfl : k = 10 := by omega
   have HO := Lib.hid hown; clear hown
   go_wp2_with fail
   go_ret
   exact ⟨_, rfl, natSl_of_owns HO.out, hb⟩
end Go.Proofs.YtbbbflnnbbaamaaGreatDoor.FL


namespace Go.Proofs.YtbbbflnnbbaamaaGreatDoor.FL
open Go.RowKit

theorem any_take {α : Type} (xs : List α) (p : α → Bool) (d : α) (k : Nat) (hk : k < xs.length) : (xs.take (k + 1)).any p = ((xs.take k).any p || p (xs.getD k d)) := by
 rw [List.take_succ_eq_append_getElem hk, List.any_append]
 simp [List.getD_eq_getElem?_getD, List.getElem?_eq_getElem hk]
theorem any_of_take {α : Type} (xs : List α) (p : α → Bool) (k : Nat) (h : (xs.take k).any p = true) : xs.any p = true := by
 rw [List.any_eq_true] at *
 obtain ⟨x, hx, hp⟩ := h
 exact ⟨x, List.mem_of_mem_take hx, hp⟩
def NoneYet {α : Type} (xs : List α) (p : α → Bool) (k : Nat) : Prop := (xs.take k).any p = false
theorem NoneYet.zero {α : Type} {xs : List α} {p : α → Bool} : NoneYet xs p 0 := by simp [NoneYet]
theorem NoneYet.next {α : Type} {xs : List α} {p : α → Bool} {k : Nat} {d : α} (h : NoneYet xs p k) (hk : k < xs.length) (hp : p (xs.getD k d) = false) : NoneYet xs p (k + 1) := by
 unfold NoneYet at *; rw [any_take xs p d k hk, h, hp]; rfl
theorem NoneYet.fin {α : Type} {xs : List α} {p : α → Bool} (h : NoneYet xs p xs.length) : xs.any p = false := by
 unfold NoneYet at h; rwa [List.take_length] at h
theorem any_here {α : Type} {xs : List α} {p : α → Bool} {k : Nat} {d : α} (hk : k < xs.length) (hp : p (xs.getD k d) = true) : xs.any p = true :=
 any_of_take xs p (k + 1) (by rw [any_take xs p d k hk, hp, Bool.or_true])
def AnyPost {α : Type} (xs : List α) (p : α → Bool) (w : World) (e : Ending) (w' : World) : Prop := ∃ r : Int, e = .returned (.int .i64 r) ∧ decide (0 ≤ r) = xs.any p ∧ Below w.heap.size w w'

set_option maxHeartbeats 1000000 in
theorem idx_len2 (xs : List (List Int)) (a : Option Addr) (cap : Nat) (p : List Int → Bool) (w : World) (hin : RowsIn w a xs) (hl : xs.length ≤ 1000)
  (hp : ∀ k, k < xs.length → ∀ a' cap' w', Below w.heap.size w w' → Calls Tryz.prog 141 #[.slice a' (xs.getD k []).length cap'] w' (fun e w'' => e = .returned (.bool (p (xs.getD k []))) ∧ Below w'.heap.size w' w'')) :
  Calls Tryz.prog 160 #[.slice a xs.length cap, .func (.func 141) #[] #[]] w (AnyPost xs p w) := by
 have HP := Lib.hid hp; have HI := Lib.hid hin; clear hp hin
 go_enter Tryz.func160, Tryz.ntmps160
 go_wp2_with fail
 go_loopw [8] (fun i wr => ∃ k : Nat, k ≤ xs.length ∧ i = .int .i64 k ∧ NoneYet xs p k ∧ Below w.heap.size w wr) (fun i _ => xs.length - (intOf i).toNat)
 case atStart => exact ⟨0, Nat.zero_le _, rfl, NoneYet.zero, Below.refl _ _⟩
 case round =>
  obtain ⟨k, hk, rfl, hny, hb⟩ := hrel
  by_cases hlt : k < xs.length
  ·have HB := Lib.hid hb; have HN := Lib.hid hny; clear hny
   obtain ⟨b, off, a', cap', rfl, hc, _⟩ := HI.out.below hb k hlt
   have HC := Lib.hid (HP.out k hlt a' cap' wr hb)
   clear hb
   generalize hx : xs.getD k [] = x at *
   have HX := Lib.hid hx; clear hx
   cases hpx : p x
   ·rw [hpx] at HC
    have HPX := Lib.hid hpx; clear hpx
    go_wp2_with (first | (go_at_call 141; refine HC.out.mono ?_; rintro e w2 ⟨rfl, hb2⟩))
    go_roundw
    case rel => exact ⟨k + 1, by omega, by go_num, HN.out.next (d := []) hlt (by rw [HX.out]; exact HPX.out), HB.out.trans (hb2.mono HB.out.size)⟩
    case measure => simp [intOf]; omega
   ·rw [hpx] at HC
    have HPX := Lib.hid hpx; clear hpx
    go_wp2_with (first | (go_at_call 141; refine HC.out.mono ?_; rintro e w2 ⟨rfl, hb2⟩))
    go_ret
    exact ⟨k, rfl, by rw [any_here (d := []) hlt (by rw [HX.out]; exact HPX.out)]; simp, HB.out.trans (hb2.mono HB.out.size)⟩
  ·obtain rfl : k = xs.length := by omega
   go_wp2_with fail
   go_ret
   exact ⟨-1, rfl, by rw [hny.fin]; rfl, hb⟩
theorem con_len2 (xs : List (List Int)) (a : Option Addr) (cap : Nat) (p : List Int → Bool) (w : World) (hin : RowsIn w a xs) (hl : xs.length ≤ 1000)
  (hp : ∀ k, k < xs.length → ∀ a' cap' w', Below w.heap.size w w' → Calls Tryz.prog 141 #[.slice a' (xs.getD k []).length cap'] w' (fun e w'' => e = .returned (.bool (p (xs.getD k []))) ∧ Below w'.heap.size w' w'')) :
  Calls Tryz.prog 140 #[.slice a xs.length cap, .func (.func 141) #[] #[]] w fun e w' => e = .returned (.bool (xs.any p)) ∧ Below w.heap.size w w' := by
 have HC := Lib.hid (idx_len2 xs a cap p w hin hl hp)
 clear hin hp
 go_enter Tryz.func140, Tryz.ntmps140
 go_wp2_with (first | (go_at_call 160; refine HC.out.mono ?_; rintro e w2 ⟨r, rfl, hr, hb2⟩))
 go_wp2_with fail
 go_ret
 exact ⟨rfl, hb2⟩

set_option maxHeartbeats 1000000 in
theorem idx_range (pg : Addr) (xs : List Int) (a : Option Addr) (cap : Nat) (p : Int → Bool) (w : World) (hin : IntsIn w a xs) (hl : xs.length ≤ 1000)
  (hp : ∀ k, k < xs.length → ∀ w', Below w.heap.size w w' → Calls Tryz.prog 142 #[.int .i64 (xs.getD k 0), .pointer (some pg)] w' (fun e w'' => e = .returned (.bool (p (xs.getD k 0))) ∧ Below w'.heap.size w' w'')) :
  Calls Tryz.prog 123 #[.slice a xs.length cap, .func (.func 142) #[] #[.pointer (some pg)]] w (AnyPost xs p w) := by
 have HP := Lib.hid hp; have HI := Lib.hid hin; clear hp hin
 go_enter Tryz.func123, Tryz.ntmps123
 go_wp2_with fail
 go_loopw [8] (fun i wr => ∃ k : Nat, k ≤ xs.length ∧ i = .int .i64 k ∧ NoneYet xs p k ∧ Below w.heap.size w wr) (fun i _ => xs.length - (intOf i).toNat)
 case atStart => exact ⟨0, Nat.zero_le _, rfl, NoneYet.zero, Below.refl _ _⟩
 case round =>
  obtain ⟨k, hk, rfl, hny, hb⟩ := hrel
  by_cases hlt : k < xs.length
  ·have HB := Lib.hid hb; have HN := Lib.hid hny; clear hny
   obtain ⟨b, off, rfl, hc⟩ := HI.out.below hb k hlt
   have HC := Lib.hid (HP.out k hlt wr hb)
   clear hb
   generalize hx : xs.getD k 0 = x at *
   have HX := Lib.hid hx; clear hx
   cases hpx : p x
   ·rw [hpx] at HC
    have HPX := Lib.hid hpx; clear hpx
    go_wp2_with (first | (go_at_call 142; refine HC.out.mono ?_; rintro e w2 ⟨rfl, hb2⟩))
    go_roundw
    case rel => exact ⟨k + 1, by omega, by go_num, HN.out.next (d := 0) hlt (by rw [HX.out]; exact HPX.out), HB.out.trans (hb2.mono HB.out.size)⟩
    case measure => simp [intOf]; omega
   ·rw [hpx] at HC
    have HPX := Lib.hid hpx; clear hpx
    go_wp2_with (first | (go_at_call 142; refine HC.out.mono ?_; rintro e w2 ⟨rfl, hb2⟩))
    go_ret
    exact ⟨k, rfl, by rw [any_here (d := 0) hlt (by rw [HX.out]; exact HPX.out)]; simp, HB.out.trans (hb2.mono HB.out.size)⟩
  ·obtain rfl : k = xs.length := by omega
   go_wp2_with fail
   go_ret
   exact ⟨-1, rfl, by rw [hny.fin]; rfl, hb⟩
theorem con_range (pg : Addr) (xs : List Int) (a : Option Addr) (cap : Nat) (p : Int → Bool) (w : World) (hin : IntsIn w a xs) (hl : xs.length ≤ 1000)
  (hp : ∀ k, k < xs.length → ∀ w', Below w.heap.size w w' → Calls Tryz.prog 142 #[.int .i64 (xs.getD k 0), .pointer (some pg)] w' (fun e w'' => e = .returned (.bool (p (xs.getD k 0))) ∧ Below w'.heap.size w' w'')) :
  Calls Tryz.prog 77 #[.slice a xs.length cap, .func (.func 142) #[] #[.pointer (some pg)]] w fun e w' => e = .returned (.bool (xs.any p)) ∧ Below w.heap.size w w' := by
 have HC := Lib.hid (idx_range pg xs a cap p w hin hl hp)
 clear hin hp
 go_enter Tryz.func77, Tryz.ntmps77
 go_wp2_with (first | (go_at_call 123; refine HC.out.mono ?_; rintro e w2 ⟨r, rfl, hr, hb2⟩))
 go_wp2_with fail
 go_ret
 exact ⟨rfl, hb2⟩

set_option maxHeartbeats 1000000 in
theorem idx_noded (pg : Addr) (xs : List Int) (a : Option Addr) (cap : Nat) (p : Int → Bool) (w : World) (hin : IntsIn w a xs) (hl : xs.length ≤ 1000)
  (hp : ∀ k, k < xs.length → ∀ w', Below w.heap.size w w' → Calls Tryz.prog 118 #[.int .i64 (xs.getD k 0), .pointer (some pg)] w' (fun e w'' => e = .returned (.bool (p (xs.getD k 0))) ∧ Below w'.heap.size w' w'')) :
  Calls Tryz.prog 123 #[.slice a xs.length cap, .func (.func 118) #[] #[.pointer (some pg)]] w (AnyPost xs p w) := by
 have HP := Lib.hid hp; have HI := Lib.hid hin; clear hp hin
 go_enter Tryz.func123, Tryz.ntmps123
 go_wp2_with fail
 go_loopw [8] (fun i wr => ∃ k : Nat, k ≤ xs.length ∧ i = .int .i64 k ∧ NoneYet xs p k ∧ Below w.heap.size w wr) (fun i _ => xs.length - (intOf i).toNat)
 case atStart => exact ⟨0, Nat.zero_le _, rfl, NoneYet.zero, Below.refl _ _⟩
 case round =>
  obtain ⟨k, hk, rfl, hny, hb⟩ := hrel
  by_cases hlt : k < xs.length
  ·have HB := Lib.hid hb; have HN := Lib.hid hny; clear hny
   obtain ⟨b, off, rfl, hc⟩ := HI.out.below hb k hlt
   have HC := Lib.hid (HP.out k hlt wr hb)
   clear hb
   generalize hx : xs.getD k 0 = x at *
   have HX := Lib.hid hx; clear hx
   cases hpx : p x
   ·rw [hpx] at HC
    have HPX := Lib.hid hpx; clear hpx
    go_wp2_with (first | (go_at_call 118; refine HC.out.mono ?_; rintro e w2 ⟨rfl, hb2⟩))
    go_roundw
    case rel => exact ⟨k + 1, by omega, by go_num, HN.out.next (d := 0) hlt (by rw [HX.out]; exact HPX.out), HB.out.trans (hb2.mono HB.out.size)⟩
    case measure => simp [intOf]; omega
   ·rw [hpx] at HC
    have HPX := Lib.hid hpx; clear hpx
    go_wp2_with (first | (go_at_call 118; refine HC.out.mono ?_; rintro e w2 ⟨rfl, hb2⟩))
    go_ret
    exact ⟨k, rfl, by rw [any_here (d := 0) hlt (by rw [HX.out]; exact HPX.out)]; simp, HB.out.trans (hb2.mono HB.out.size)⟩
  ·obtain rfl : k = xs.length := by omega
   go_wp2_with fail
   go_ret
   exact ⟨-1, rfl, by rw [hny.fin]; rfl, hb⟩
theorem con_noded (pg : Addr) (xs : List Int) (a : Option Addr) (cap : Nat) (p : Int → Bool) (w : World) (hin : IntsIn w a xs) (hl : xs.length ≤ 1000)
  (hp : ∀ k, k < xs.length → ∀ w', Below w.heap.size w w' → Calls Tryz.prog 118 #[.int .i64 (xs.getD k 0), .pointer (some pg)] w' (fun e w'' => e = .returned (.bool (p (xs.getD k 0))) ∧ Below w'.heap.size w' w'')) :
  Calls Tryz.prog 77 #[.slice a xs.length cap, .func (.func 118) #[] #[.pointer (some pg)]] w fun e w' => e = .returned (.bool (xs.any p)) ∧ Below w.heap.size w w' := by
 have HC := Lib.hid (idx_noded pg xs a cap p w hin hl hp)
 clear hin hp
 go_enter Tryz.func77, Tryz.ntmps77
 go_wp2_with (first | (go_at_call 123; refine HC.out.mono ?_; rintro e w2 ⟨r, rfl, hr, hb2⟩))
 go_wp2_with fail
 go_ret
 exact ⟨rfl, hb2⟩

set_option maxHeartbeats 1000000 in
theorem idx_reached (pq : Addr) (xs : List Int) (a : Option Addr) (cap : Nat) (p : Int → Bool) (w : World) (hin : IntsIn w a xs) (hl : xs.length ≤ 1000)
  (hp : ∀ k, k < xs.length → ∀ w', Below w.heap.size w w' → Calls Tryz.prog 167 #[.int .i64 (xs.getD k 0), .pointer (some pq)] w' (fun e w'' => e = .returned (.bool (p (xs.getD k 0))) ∧ Below w'.heap.size w' w'')) :
  Calls Tryz.prog 123 #[.slice a xs.length cap, .func (.func 167) #[] #[.pointer (some pq)]] w (AnyPost xs p w) := by
 have HP := Lib.hid hp; have HI := Lib.hid hin; clear hp hin
 go_enter Tryz.func123, Tryz.ntmps123
 go_wp2_with fail
 go_loopw [8] (fun i wr => ∃ k : Nat, k ≤ xs.length ∧ i = .int .i64 k ∧ NoneYet xs p k ∧ Below w.heap.size w wr) (fun i _ => xs.length - (intOf i).toNat)
 case atStart => exact ⟨0, Nat.zero_le _, rfl, NoneYet.zero, Below.refl _ _⟩
 case round =>
  obtain ⟨k, hk, rfl, hny, hb⟩ := hrel
  by_cases hlt : k < xs.length
  ·have HB := Lib.hid hb; have HN := Lib.hid hny; clear hny
   obtain ⟨b, off, rfl, hc⟩ := HI.out.below hb k hlt
   have HC := Lib.hid (HP.out k hlt wr hb)
   clear hb
   generalize hx : xs.getD k 0 = x at *
   have HX := Lib.hid hx; clear hx
   cases hpx : p x
   ·rw [hpx] at HC
    have HPX := Lib.hid hpx; clear hpx
    go_wp2_with (first | (go_at_call 167; refine HC.out.mono ?_; rintro e w2 ⟨rfl, hb2⟩))
    go_roundw
    case rel => exact ⟨k + 1, by omega, by go_num, HN.out.next (d := 0) hlt (by rw [HX.out]; exact HPX.out), HB.out.trans (hb2.mono HB.out.size)⟩
    case measure => simp [intOf]; omega
   ·rw [hpx] at HC
    have HPX := Lib.hid hpx; clear hpx
    go_wp2_with (first | (go_at_call 167; refine HC.out.mono ?_; rintro e w2 ⟨rfl, hb2⟩))
    go_ret
    exact ⟨k, rfl, by rw [any_here (d := 0) hlt (by rw [HX.out]; exact HPX.out)]; simp, HB.out.trans (hb2.mono HB.out.size)⟩
  ·obtain rfl : k = xs.length := by omega
   go_wp2_with fail
   go_ret
   exact ⟨-1, rfl, by rw [hny.fin]; rfl, hb⟩
theorem con_reached (pq : Addr) (xs : List Int) (a : Option Addr) (cap : Nat) (p : Int → Bool) (w : World) (hin : IntsIn w a xs) (hl : xs.length ≤ 1000)
  (hp : ∀ k, k < xs.length → ∀ w', Below w.heap.size w w' → Calls Tryz.prog 167 #[.int .i64 (xs.getD k 0), .pointer (some pq)] w' (fun e w'' => e = .returned (.bool (p (xs.getD k 0))) ∧ Below w'.heap.size w' w'')) :
  Calls Tryz.prog 77 #[.slice a xs.length cap, .func (.func 167) #[] #[.pointer (some pq)]] w fun e w' => e = .returned (.bool (xs.any p)) ∧ Below w.heap.size w w' := by
 have HC := Lib.hid (idx_reached pq xs a cap p w hin hl hp)
 clear hin hp
 go_enter Tryz.func77, Tryz.ntmps77
 go_wp2_with (first | (go_at_call 123; refine HC.out.mono ?_; rintro e w2 ⟨r, rfl, hr, hb2⟩))
 go_wp2_with fail
 go_ret
 exact ⟨rfl, hb2⟩

end Go.Proofs.YtbbbflnnbbaamaaGreatDoor.FL


namespace Go.Proofs.YtbbbflnnbbaamaaGreatDoor.FL
open Go.RowKit

def FirstAt (xs : List Int) (v r : Int) : Prop := (r = -1 ∧ v ∉ xs) ∨ (0 ≤ r ∧ r.toNat < xs.length ∧ xs.getD r.toNat 0 = v ∧ ∀ i, i < r.toNat → xs.getD i 0 ≠ v)
def NotYet (xs : List Int) (v : Int) (k : Nat) : Prop := ∀ j : Nat, j < k → xs.getD j 0 ≠ v
theorem NotYet.zero {xs : List Int} {v : Int} : NotYet xs v 0 := fun _ hj => absurd hj (Nat.not_lt_zero _)
theorem NotYet.next {xs : List Int} {v : Int} {k : Nat} (h : NotYet xs v k) (g : xs.getD k 0 ≠ v) : NotYet xs v (k + 1) := fun j hj => by
 rcases Nat.lt_or_ge j k with c | c
 ·exact h j c
 ·obtain rfl : j = k := by omega
  exact g
theorem NotYet.fin {xs : List Int} {v : Int} (h : NotYet xs v xs.length) : v ∉ xs := fun c => by
 obtain ⟨i, hi, e⟩ := List.mem_iff_getElem.1 c
 have := h i hi
 rw [List.getD_eq_getElem?_getD, List.getElem?_eq_getElem hi] at this
 exact this e
theorem FirstAt.mem {xs : List Int} {v r : Int} (h : FirstAt xs v r) : decide (0 ≤ r) = decide (v ∈ xs) := by
 rcases h with ⟨rfl, h⟩ | ⟨h0, h1, h2, _⟩
 ·simp [h]
 ·have : v ∈ xs := by
   rw [← h2, List.getD_eq_getElem?_getD, List.getElem?_eq_getElem h1]; simp
  simp [h0, this]
def IndexPost (xs : List Int) (v : Int) (w : World) (e : Ending) (w' : World) : Prop := ∃ r : Int, e = .returned (.int .i64 r) ∧ FirstAt xs v r ∧ w = w'
set_option maxHeartbeats 1000000 in
theorem index_any (xs : List Int) (a : Option Addr) (cap : Nat) (v : Int) (w : World) (hin : IntsIn w a xs) (hl : xs.length ≤ 1000) :
  Calls Tryz.prog 76 #[.slice a xs.length cap, .int .i64 v] w (IndexPost xs v w) := by
 have HI := Lib.hid hin; clear hin
 go_enter Tryz.func76, Tryz.ntmps76
 go_wp2_with fail
 go_loop [8] (fun i => ∃ k : Nat, k ≤ xs.length ∧ i = .int .i64 k ∧ NotYet xs v k) (fun i => xs.length - (intOf i).toNat)
 case atStart => exact ⟨0, Nat.zero_le _, rfl, NotYet.zero⟩
 case round =>
  obtain ⟨k, hk, rfl, hny⟩ := hrel
  by_cases hlt : k < xs.length
  ·obtain ⟨b, off, rfl, hc⟩ := HI.out k hlt
   have HN := Lib.hid hny; clear hny
   generalize hx : xs.getD k 0 = x at *
   have HX := Lib.hid hx; clear hx
   by_cases hv : v = x
   ·have hvx : (v == x) = true := by simpa using hv
    have HV := Lib.hid hv; clear hv
    go_wp2_with fail
    go_ret
    exact ⟨k, rfl, .inr ⟨by omega, by simpa using hlt, by rw [Int.toNat_natCast, HX.out]; exact HV.out.symm, by rw [Int.toNat_natCast]; exact HN.out⟩, rfl⟩
   ·have hvx : (v == x) = false := by simpa using hv
    have HV := Lib.hid hv; clear hv
    go_wp2_with fail
    go_round
    case rel => exact ⟨k + 1, by omega, by go_num, HN.out.next (by rw [HX.out]; exact fun c => HV.out c.symm)⟩
    case measure => simp [intOf]; omega
  ·obtain rfl : k = xs.length := by omega
   go_wp2_with fail
   go_ret
   exact ⟨-1, rfl, .inl ⟨rfl, hny.fin⟩, rfl⟩
theorem contains_any (xs : List Int) (a : Option Addr) (cap : Nat) (v : Int) (w : World) (hin : IntsIn w a xs) (hl : xs.length ≤ 1000) :
  Calls Tryz.prog 42 #[.slice a xs.length cap, .int .i64 v] w fun e w' => e = .returned (.bool (decide (v ∈ xs))) ∧ w = w' := by
 have HC := Lib.hid (index_any xs a cap v w hin hl)
 clear hin
 go_enter Tryz.func42, Tryz.ntmps42
 go_wp2_with (first | (go_at_call 76; refine HC.out.mono ?_; rintro e w2 ⟨r, rfl, hr, rfl⟩))
 have hm := Lib.hid hr.mem
 clear hr
 go_wp2_with fail
 go_ret
 exact ⟨ret_bool hm.out, rfl⟩

theorem len2_any (a : Option Addr) (n cap : Nat) (w : World) :
  Calls Tryz.prog 141 #[.slice a n cap] w fun e w' => e = .returned (.bool (decide (2 < n))) ∧ Below w.heap.size w w' := by
 go_enter Tryz.func141, Tryz.ntmps141
 go_wp2_with fail
 go_ret
 exact ⟨by simp; omega, Below.refl _ _⟩
def offB (n : Nat) (x : Int) : Bool := decide (x < 0) || decide ((n : Int) ≤ x)
theorem off_any (fid : FuncId) (hfid : fid = 142 ∨ fid = 118) (x : Int) (pg : Nat) (a : Option Addr) (n cap : Nat) (w : World) (hc : w.cell? ⟨pg, 0, none⟩ = some (.slice a n cap)) :
  Calls Tryz.prog fid #[.int .i64 x, .pointer (some ⟨pg, 0, none⟩)] w fun e w' => e = .returned (.bool (offB n x)) ∧ Below w.heap.size w w' := by
 unfold offB
 rcases hfid with rfl | rfl
 ·by_cases h : x < 0
  ·go_enter Tryz.func142, Tryz.ntmps142
   go_wp2_with fail
   go_ret
   exact ⟨by simp [h], Below.refl _ _⟩
  ·have h' : 0 ≤ x := by omega
   go_enter Tryz.func142, Tryz.ntmps142
   go_wp2_with fail
   go_ret
   exact ⟨by simp; omega, Below.refl _ _⟩
 ·by_cases h : x < 0
  ·go_enter Tryz.func118, Tryz.ntmps118
   go_wp2_with fail
   go_ret
   exact ⟨by simp [h], Below.refl _ _⟩
  ·have h' : 0 ≤ x := by omega
   go_enter Tryz.func118, Tryz.ntmps118
   go_wp2_with fail
   go_ret
   exact ⟨by simp; omega, Below.refl _ _⟩
end Go.Proofs.YtbbbflnnbbaamaaGreatDoor.FL


namespace Go.Proofs.YtbbbflnnbbaamaaGreatDoor.FL
open Go.RowKit

def largeB (g : List (List Int)) : Bool := decide (g.length < 1) || (decide (10 < g.length) || g.any (fun r => decide (2 < r.length)))
def argB (g : List (List Int)) : Bool := g.any (fun r => r.any (offB g.length))
def validE (g : List (List Int)) : Int := if largeB g then 3 else if argB g then 1 else 0
structure Short (g : List (List Int)) : Prop where
 len : g.length ≤ 1000
 row : ∀ k, (g.getD k []).length ≤ 1000

set_option maxRecDepth 100000 in
set_option maxHeartbeats 1000000 in
theorem Validate_any (g : List (List Int)) (a : Option Addr) (cap : Nat) (w : World) (hin : RowsIn w a g) (hs : Short g) :
  Calls Tryz.prog 117 #[.slice a g.length cap] w fun e w' => e = .returned (.int .i64 (validE g)) ∧ Below w.heap.size w w' := by
 have hs1 := hs.len
 by_cases h1 : g.length < 1
 ·have hv : validE g = 3 := by unfold validE largeB; simp [h1]
  rw [hv]; clear hv
  go_enter Tryz.func117, Tryz.ntmps117
  go_wp2_with fail
  go_ret
  exact ⟨rfl, (Below.refl _ _).alloc (Nat.le_refl _) _⟩
 by_cases h2 : 10 < g.length
 ·have hv : validE g = 3 := by unfold validE largeB; simp [h2]
  rw [hv]; clear hv
  go_enter Tryz.func117, Tryz.ntmps117
  go_wp2_with fail
  go_ret
  exact ⟨rfl, (Below.refl _ _).alloc (Nat.le_refl _) _⟩
 have HI := Lib.hid hin; clear hin
 cases h3 : g.any (fun r => decide (2 < r.length))
 ·have hv : validE g = if argB g then 1 else 0 := by
   unfold validE; rw [show largeB g = false by unfold largeB; rw [h3, decide_eq_false h1, decide_eq_false h2]; rfl]; rfl
  have HC : Hid (∀ w', Below w.heap.size w w' → Calls Tryz.prog 140 #[.slice a g.length cap, .func (.func 141) #[] #[]] w' fun e w'' => e = .returned (.bool false) ∧ Below w'.heap.size w' w'') := Lib.hid fun w' hb => by
   rw [← h3]
   exact con_len2 g a cap _ w' (HI.out.below hb) hs1 (fun k _ a' cap' w'' _ => len2_any a' _ cap' w'')
  have HR : Hid (∀ k, k < g.length → ∀ a' cap' w', IntsIn w' a' (g.getD k []) → w'.cell? ⟨w.heap.size, 0, none⟩ = some (.slice a g.length cap) →
    Calls Tryz.prog 77 #[.slice a' (g.getD k []).length cap', .func (.func 142) #[] #[.pointer (some ⟨w.heap.size, 0, none⟩)]] w' fun e w'' => e = .returned (.bool ((g.getD k []).any (offB g.length))) ∧ Below w'.heap.size w' w'') := Lib.hid fun k _ a' cap' w' hi hc =>
   con_range ⟨w.heap.size, 0, none⟩ (g.getD k []) a' cap' (offB g.length) w' hi (hs.row k) (fun j _ w'' hb => off_any _ (.inl rfl) _ w.heap.size a g.length cap w'' (keep hc hb))
  have hfin : NoneYet g (fun r => r.any (offB g.length)) g.length → validE g = 0 := fun h => by rw [hv, show argB g = false from h.fin]; rfl
  have hhit : ∀ k, k < g.length → (g.getD k []).any (offB g.length) = true → validE g = 1 := fun k hk h => by
   rw [hv, show argB g = true from any_here (d := []) (p := fun r : List Int => r.any (offB g.length)) hk h]; rfl
  have HF := Lib.hid hfin; have HH := Lib.hid hhit
  clear hv hfin hhit h3 hs
  generalize validE g = V at *
  go_enter Tryz.func117, Tryz.ntmps117
  go_wp2_with fail
  refine (HC.out _ ((Below.refl _ _).alloc (Nat.le_refl _) _)).mono ?_; rintro e w1 ⟨rfl, hb1⟩
  have hc1 := bc hb1 (b := w.heap.size) (by simp)
  have hk1 : w1.cell? ⟨w.heap.size, 0, none⟩ = some (.slice a g.length cap) := by rw [hc1]; simp [go_sem]
  have HK := Lib.hid hk1
  have HB1 := Lib.hid (((Below.refl _ _).alloc (Nat.le_refl _) _).trans (hb1.mono (by simp)) : Below w.heap.size w w1)
  clear hc1 hb1
  go_wp2_with fail
  go_loopw [19] (fun i wr => ∃ k : Nat, k ≤ g.length ∧ i = .int .i64 k ∧ NoneYet g (fun r => r.any (offB g.length)) k ∧ Below w1.heap.size w1 wr) (fun i _ => g.length - (intOf i).toNat)
  case atStart => exact ⟨0, Nat.zero_le _, rfl, NoneYet.zero, Below.refl _ _⟩
  case round =>
   obtain ⟨k, hk, rfl, hny, hb⟩ := hrel
   by_cases hlt : k < g.length
   ·obtain ⟨b, off, a', cap', rfl, hc, hi⟩ := (HI.out.below HB1.out).below hb k hlt
    have HCall := Lib.hid (HR.out k hlt a' cap' wr hi (keep HK.out hb))
    have HB := Lib.hid hb; have HN := Lib.hid hny
    clear hb hny hi hk1
    generalize hrow : g.getD k [] = row at *
    have HRow := Lib.hid hrow; clear hrow
    cases hany : row.any (offB g.length)
    ·rw [hany] at HCall
     have HA := Lib.hid hany; clear hany
     go_wp2_with (first | (go_at_call 77; refine HCall.out.mono ?_; rintro e w2 ⟨rfl, hb2⟩))
     go_roundw
     case rel => exact ⟨k + 1, by omega, by go_num, HN.out.next (d := []) hlt (by rw [HRow.out]; exact HA.out), HB.out.trans (hb2.mono HB.out.size)⟩
     case measure => simp [intOf]; omega
    ·rw [hany] at HCall
     have HA := Lib.hid hany; clear hany
     go_wp2_with (first | (go_at_call 77; refine HCall.out.mono ?_; rintro e w2 ⟨rfl, hb2⟩))
     go_ret
     exact ⟨ret_int (HH.out k hlt (by rw [HRow.out]; exact HA.out)).symm, (HB1.out.trans (HB.out.mono HB1.out.size)).trans (hb2.mono (HB1.out.trans (HB.out.mono HB1.out.size)).size)⟩
   ·obtain rfl : k = g.length := by omega
    have HN := Lib.hid hny; clear hny
    go_wp2_with fail
    go_ret
    exact ⟨ret_int (HF.out HN.out).symm, HB1.out.trans (hb.mono HB1.out.size)⟩
 ·have hv : validE g = 3 := by unfold validE largeB; rw [h3]; simp
  rw [hv]; clear hv
  have HC : Hid (∀ w', Below w.heap.size w w' → Calls Tryz.prog 140 #[.slice a g.length cap, .func (.func 141) #[] #[]] w' fun e w'' => e = .returned (.bool true) ∧ Below w'.heap.size w' w'') := Lib.hid fun w' hb => by
   rw [← h3]
   exact con_len2 g a cap _ w' (HI.out.below hb) hs1 (fun k _ a' cap' w'' _ => len2_any a' _ cap' w'')
  clear h3 hs
  go_enter Tryz.func117, Tryz.ntmps117
  go_wp2_with fail
  refine (HC.out _ ((Below.refl _ _).alloc (Nat.le_refl _) _)).mono ?_; rintro e w1 ⟨rfl, hb1⟩
  go_wp2_with fail
  go_ret
  exact ⟨rfl, ((Below.refl _ _).alloc (Nat.le_refl _) _).trans (hb1.mono (by simp))⟩
end Go.Proofs.YtbbbflnnbbaamaaGreatDoor.FL
