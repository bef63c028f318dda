/- Packed of several texts. -/
import Derived.Test.YtbbbflnnbbaamaaGreatDoorH27
import Derived.Test.YtbbbflnnbbaamaaGreatDoorH14
import Derived.Maps.OwnIn
import Derived.Deep.CutRange
import Derived.Test.YtbbbflnnbbaamaaGreatDoorH20
namespace Go.Proofs.YtbbbflnnbbaamaaGreatDoor.PK
open Go.RowKit Go.Shelf
attribute [local go_sem] Oper.semAt_some

def hbI (F : Fun) (k : Nat) : List Int := (List.range k).map fun j => ((locI F.bs j).1 : Int)
def haI (F : Fun) (k : Nat) : List Int := (List.range k).map fun j => ((locI F.bs j).2 : Int)
theorem hbI_len (F : Fun) (k : Nat) : (hbI F k).length = k := by simp [hbI]
theorem haI_len (F : Fun) (k : Nat) : (haI F k).length = k := by simp [haI]
theorem hbI_next (F : Fun) (k : Nat) : hbI F (k + 1) = hbI F k ++ [((locI F.bs k).1 : Int)] := by simp [hbI, List.range_succ]
theorem haI_next (F : Fun) (k : Nat) : haI F (k + 1) = haI F k ++ [((locI F.bs k).2 : Int)] := by simp [haI, List.range_succ]
theorem hbI_get {F : Fun} {k j : Nat} (h : j < k) : (hbI F k).getD j 0 = ((locI F.bs j).1 : Int) := by
 unfold hbI
 rw [List.getD_eq_getElem?_getD, List.getElem?_map, List.getElem?_range h]; rfl
theorem haI_get {F : Fun} {k j : Nat} (h : j < k) : (haI F k).getD j 0 = ((locI F.bs j).2 : Int) := by
 unfold haI
 rw [List.getD_eq_getElem?_getD, List.getElem?_map, List.getElem?_range h]; rfl
theorem held_4h {q : Nat} {p1 p2 p3 p4 o1 o2 o3 o4 : Nat} {v1 v2 v3 v4 : Value} {w3 w1 w2 : World}
  (h : Below q w3 w1 ∧ q ≤ w1.heap.size ∧ w1.cell? ⟨p1, o1, none⟩ = some v1 ∧ w1.cell? ⟨p2, o2, none⟩ = some v2 ∧ w1.cell? ⟨p3, o3, none⟩ = some v3 ∧ w1.cell? ⟨p4, o4, none⟩ = some v4) (hb : Below w1.heap.size w1 w2) :
  Below q w3 w2 ∧ q ≤ w2.heap.size ∧ w2.cell? ⟨p1, o1, none⟩ = some v1 ∧ w2.cell? ⟨p2, o2, none⟩ = some v2 ∧ w2.cell? ⟨p3, o3, none⟩ = some v3 ∧ w2.cell? ⟨p4, o4, none⟩ = some v4 := by
 obtain ⟨h10, h11, h1, h2, h3, h4⟩ := h
 exact ⟨h10.trans (hb.mono h11), Nat.le_trans h11 hb.size, keep h1 hb, keep h2 hb, keep h3 hb, keep h4 hb⟩
theorem cell_far_h {w : World} {b k q j : Nat} {v x : Value} (h : w.cell? ⟨b, k, none⟩ = some v) (hn : b ≠ q) : (w.setCell ⟨q, j, none⟩ x).cell? ⟨b, k, none⟩ = some v := by
 rw [World.cell?_of_block (w := w) (Below.heap_setCell _ _ _ _ hn)]; exact h
theorem held_4s {q y : Nat} {o1 o2 o3 o4 : Nat} {v1 v2 v3 v4 : Value} {w3 w1 : World} (hy : y < q)
  (h : Below q w3 w1 ∧ q ≤ w1.heap.size ∧ w1.cell? ⟨y, o1, none⟩ = some v1 ∧ w1.cell? ⟨y, o2, none⟩ = some v2 ∧ w1.cell? ⟨y, o3, none⟩ = some v3 ∧ w1.cell? ⟨y, o4, none⟩ = some v4) (a b c d : Value) :
  Below q w3 ((((w1.setCell ⟨q, 0, none⟩ a).setCell ⟨q, 1, none⟩ b).setCell ⟨q, 2, none⟩ c).setCell ⟨q, 3, none⟩ d) ∧ q ≤ ((((w1.setCell ⟨q, 0, none⟩ a).setCell ⟨q, 1, none⟩ b).setCell ⟨q, 2, none⟩ c).setCell ⟨q, 3, none⟩ d).heap.size ∧
   ((((w1.setCell ⟨q, 0, none⟩ a).setCell ⟨q, 1, none⟩ b).setCell ⟨q, 2, none⟩ c).setCell ⟨q, 3, none⟩ d).cell? ⟨y, o1, none⟩ = some v1 ∧ ((((w1.setCell ⟨q, 0, none⟩ a).setCell ⟨q, 1, none⟩ b).setCell ⟨q, 2, none⟩ c).setCell ⟨q, 3, none⟩ d).cell? ⟨y, o2, none⟩ = some v2 ∧
   ((((w1.setCell ⟨q, 0, none⟩ a).setCell ⟨q, 1, none⟩ b).setCell ⟨q, 2, none⟩ c).setCell ⟨q, 3, none⟩ d).cell? ⟨y, o3, none⟩ = some v3 ∧ ((((w1.setCell ⟨q, 0, none⟩ a).setCell ⟨q, 1, none⟩ b).setCell ⟨q, 2, none⟩ c).setCell ⟨q, 3, none⟩ d).cell? ⟨y, o4, none⟩ = some v4 := by
 obtain ⟨h1, h2, h3, h4, h5, h6⟩ := h
 have hn : y ≠ q := Nat.ne_of_lt hy
 have hb := (((h1.setCell (p := ⟨q, 0, none⟩) (Nat.le_refl q) a).setCell (p := ⟨q, 1, none⟩) (Nat.le_refl q) b).setCell (p := ⟨q, 2, none⟩) (Nat.le_refl q) c).setCell (p := ⟨q, 3, none⟩) (Nat.le_refl q) d
 exact ⟨hb, by simp; exact h2, cell_far_h (cell_far_h (cell_far_h (cell_far_h h3 hn) hn) hn) hn, cell_far_h (cell_far_h (cell_far_h (cell_far_h h4 hn) hn) hn) hn, cell_far_h (cell_far_h (cell_far_h (cell_far_h h5 hn) hn) hn) hn, cell_far_h (cell_far_h (cell_far_h (cell_far_h h6 hn) hn) hn) hn⟩
theorem RowsBet.rows {w : World} {lo hi : Nat} {v : Value} {L : List (List Int)} (h : RowsBet w lo hi v L) {a : Option Addr} {n c : Nat} (hv : v = .slice a n c) : RowsIn w a L := fun k hk => by
 obtain ⟨g, c2, a2, cap, e, _, _, hc, _, _, hi, _⟩ := h k hk
 rw [hv] at e
 simp only [Value.slice.injEq] at e
 obtain ⟨rfl, _, _⟩ := e
 exact ⟨g, 0, a2, cap, rfl, by rw [Nat.zero_add]; exact hc, hi⟩
structure HmO (F : Fun) (q : Nat) (w1 : World) (np n p : Nat) (W : World) : Prop where
 box : ∃ ga gc, W.heap[p]? = some (.cells #[.int .i64 np, .slice none 0 0, .slice none 0 0, .slice ga n gc] 158 (0, 0)) ∧ ∃ lo hi, RowsBet W lo hi (.slice ga n gc) (gI F) ∧ (p < lo ∨ hi ≤ p) ∧ hi ≤ W.heap.size ∧ w1.heap.size ≤ lo
 low : Below w1.heap.size w1 W
 ge : w1.heap.size ≤ p
theorem hm_b {F : Fun} {q np n gc : Nat} {ga : Option Addr} {w1 w4 : World} (hb4 : Below w1.drew.heap.size w1.drew w4) (hl : (gI F).length = n) (hro : RowsOwn w4 w1.drew.heap.size (.slice ga (gI F).length gc) (gI F)) :
  HmO F q w1 np n w4.heap.size (w4.alloc (.cells #[.int .i64 np, .slice none 0 0, .slice none 0 0, .slice ga (gI F).length gc] 158)) := by
 have hb : Below w1.heap.size w1 w4 := below_of_drew hb4
 subst hl
 refine ⟨⟨ga, gc, heap_alloc_new _ _, w1.heap.size, w4.heap.size, hro.bet.keep (fun b _ h2 => Below.heap_alloc _ _ _ h2), .inr (Nat.le_refl _), by simp, Nat.le_refl _⟩, hb.alloc hb.size _, hb.size⟩
theorem hm_a {F : Fun} {q np n gc : Nat} {ga : Option Addr} {w1 w4 : World} (hb4 : Below (w1.drew.alloc (.cells #[.int .i64 0, .slice none 0 0, .slice none 0 0, .slice none 0 0] 158)).heap.size (w1.drew.alloc (.cells #[.int .i64 0, .slice none 0 0, .slice none 0 0, .slice none 0 0] 158)) w4) (hl : (gI F).length = n) (hro : RowsOwn w4 (w1.drew.alloc (.cells #[.int .i64 0, .slice none 0 0, .slice none 0 0, .slice none 0 0] 158)).heap.size (.slice ga (gI F).length gc) (gI F)) :
  HmO F q w1 np n w1.heap.size ((((w4.setCell ⟨w1.heap.size, 0, none⟩ (.int .i64 np)).setCell ⟨w1.heap.size, 1, none⟩ (.slice none 0 0)).setCell ⟨w1.heap.size, 2, none⟩ (.slice none 0 0)).setCell ⟨w1.heap.size, 3, none⟩ (.slice ga (gI F).length gc)) := by
 have hz : (w1.drew.alloc (.cells #[.int .i64 0, .slice none 0 0, .slice none 0 0, .slice none 0 0] 158)).heap.size = w1.heap.size + 1 := by show (w1.alloc _).heap.size = _; simp
 have hb : Below w1.heap.size w1 w4 := ((below_drew1 (Below.refl w1.heap.size w1)).alloc (Nat.le_refl _) (.cells #[.int .i64 0, .slice none 0 0, .slice none 0 0, .slice none 0 0] 158)).trans (hb4.mono (by rw [hz]; omega))
 have ht4 : w4.heap[w1.heap.size]? = some ((.cells #[.int .i64 0, .slice none 0 0, .slice none 0 0, .slice none 0 0] 158) : Obj) := (hb4.block w1.heap.size (by rw [hz]; omega)).trans (heap_alloc_new w1.drew (.cells #[.int .i64 0, .slice none 0 0, .slice none 0 0, .slice none 0 0] 158))
 have h0 := heap_setCell_same _ w1.heap.size 3 _ _ (.slice ga (gI F).length gc) (heap_setCell_same _ w1.heap.size 2 _ _ (.slice none 0 0) (heap_setCell_same _ w1.heap.size 1 _ _ (.slice none 0 0) (heap_setCell_same w4 w1.heap.size 0 _ _ (.int .i64 np) ht4)))
 have hk : ∀ b, b ≠ w1.heap.size → ((((w4.setCell ⟨w1.heap.size, 0, none⟩ (.int .i64 np)).setCell ⟨w1.heap.size, 1, none⟩ (.slice none 0 0)).setCell ⟨w1.heap.size, 2, none⟩ (.slice none 0 0)).setCell ⟨w1.heap.size, 3, none⟩ (.slice ga (gI F).length gc)).heap[b]? = w4.heap[b]? := fun b hb => by
  rw [Below.heap_setCell _ _ _ _ hb, Below.heap_setCell _ _ _ _ hb, Below.heap_setCell _ _ _ _ hb, Below.heap_setCell _ _ _ _ hb]
 subst hl
 refine ⟨⟨ga, gc, h0, w1.heap.size + 1, w4.heap.size, ?_, .inl (Nat.lt_succ_self _), by simp, Nat.le_succ _⟩, ?_, Nat.le_refl _⟩
 ·have := hro.bet
  rw [hz] at this
  exact this.keep (fun b h1 _ => hk b (by omega))
 ·exact (((hb.setCell (p := ⟨w1.heap.size, 0, none⟩) (Nat.le_refl _) _).setCell (p := ⟨w1.heap.size, 1, none⟩) (Nat.le_refl _) _).setCell (p := ⟨w1.heap.size, 2, none⟩) (Nat.le_refl _) _).setCell (p := ⟨w1.heap.size, 3, none⟩) (Nat.le_refl _) _
structure HmR (F : Fun) (np n p : Nat) (ga : Option Addr) (gc : Nat) (W0 : World) (k1 k2 : Nat) (v1 v2 : Value) (W : World) : Prop where
 box : W.heap[p]? = some (.cells #[.int .i64 np, v1, v2, .slice ga n gc] 158 (0, 0))
 r1 : W.ownsRow W0.heap.size 3 1 v1 k1 (encI (hbI F k1))
 r2 : W.ownsRow W0.heap.size 3 1 v2 k2 (encI (haI F k2))
 ne : ∀ g, v1.ownBlock = some g → v2.ownBlock ≠ some g
 sav : Save p W0 W
theorem own_ne {W : World} {B p : Nat} {e : TypeId} {s k : Nat} {v : Value} {xs : List Value} (h : W.ownsRow B e s v k xs) (hp : p < B) : some p ≠ v.ownBlock := fun e => by
 have := (owns_block h e.symm).1; omega
theorem cells_one {w : World} {b : Nat} {v : Value} (h : w.cell? ⟨b, 0, none⟩ = some v) : ∀ j u, [v][j]? = some u → w.cell? ((⟨b, 0, none⟩ : Addr).add j) = some u := fun j u hj => by
 match j, hj with
 | 0, hj => cases hj; rw [addr_zero]; exact h
theorem one_at (w : World) (v : Value) (t : TypeId) (b : Nat) (hb : b = w.heap.size) : (w.alloc (.cells #[v] t)).cell? ⟨b, 0, none⟩ = some v := by
 subst hb; exact cell_of_row _ _ 0 _ _ _ (heap_alloc_new w (.cells #[v] t))
theorem Save.trans_turn {p : Nat} {W0 W W' : World} (h : Save p W0 W) (ht : Turn W0.heap.size W W') : Save p W0 W' :=
 ⟨ht.os.trans h.os, ht.tape.trans h.tape, ht.output.trans h.output, Nat.le_trans h.size ht.size, fun k hk hq => by
  obtain ⟨o, ho⟩ : ∃ o, W.heap[k]? = some o := ⟨_, Array.getElem?_eq_getElem (Nat.lt_of_lt_of_le hk h.size)⟩
  exact (ht.block k o ho (.inl hk)).trans (h.block k hk hq)⟩
theorem set_grown (W : World) (b j : Nat) (v : Value) : W.grownBy (W.setCell ⟨b, j, none⟩ v) (some b) :=
 ⟨rfl, rfl, rfl, by simp [World.setCell], fun k _ hk => Below.heap_setCell _ _ _ k (fun e => hk (by rw [e]))⟩
theorem HmR.turn {F : Fun} {np n p : Nat} {ga : Option Addr} {gc : Nat} {W0 : World} {k1 k2 : Nat} {v1 v2 : Value} {W W' : World} (h : HmR F np n p ga gc W0 k1 k2 v1 v2 W) (ht : Turn W0.heap.size W W') : HmR F np n p ga gc W0 k1 k2 v1 v2 W' :=
 ⟨ht.heap h.box, ht.owns h.r1, ht.owns h.r2, h.ne, h.sav.trans_turn ht⟩
theorem HmR.one {F : Fun} {np n p : Nat} {ga : Option Addr} {gc : Nat} {W0 : World} {k1 k2 : Nat} {v1 v2 v' : Value} {W w5 : World} {o : Obj} {x : Int} {q Bs : Nat} (h : HmR F np n p ga gc W0 k1 k2 v1 v2 W) (hp : p < W0.heap.size) (hq : q ≤ p) (hBs : Bs < W0.heap.size) (hne : p ≠ Bs)
  (ho : w5.ownsRow W0.heap.size 3 1 v' (k1 + 1) (encI (hbI F k1) ++ [.int .i64 x])) (hx : x = ((locI F.bs k1).1 : Int)) (hg : (W.alloc o).grownBy w5 v1.ownBlock) (hat : v'.ownBlock = v1.ownBlock ∨ v'.ownBlock = some (W.alloc o).heap.size) :
  w5.heap[p]? = some (.cells #[.int .i64 np, v1, v2, .slice ga n gc] 158 (0, 0)) ∧ HmR F np n p ga gc W0 (k1 + 1) k2 v' v2 (w5.setCell ⟨p, 1, none⟩ v') ∧ KeepsOthers W (w5.setCell ⟨p, 1, none⟩ v') ∧ Kp q Bs W (w5.setCell ⟨p, 1, none⟩ v') ∧ ∀ b cs t fz, W.heap[b]? = some (.cells cs t fz) → t ≠ 3 → b ≠ p → (w5.setCell ⟨p, 1, none⟩ v').heap[b]? = some (.cells cs t fz) := by
 have hWz := h.sav.size
 have hb : w5.heap[p]? = some (.cells #[.int .i64 np, v1, v2, .slice ga n gc] 158 (0, 0)) := by
  rw [hg.block _ (by simp; have := lt_of_block h.box; omega) (own_ne h.r1 hp), Below.heap_alloc W _ _ (lt_of_block h.box)]; exact h.box
 have h2 : w5.ownsRow W0.heap.size 3 1 v2 k2 (encI (haI F k2)) := (h.r2.alloc o).kept hg (by
  cases e : v2.ownBlock with
  | none => exact .inl rfl
  | some g => exact .inr fun e2 => h.ne g e2.symm e)
 rw [hx] at ho
 have e1 : encI (hbI F k1) ++ [.int .i64 ((locI F.bs k1).1 : Int)] = encI (hbI F (k1 + 1)) := by rw [hbI_next]; simp [encI]
 rw [e1] at ho
 refine ⟨hb, ⟨heap_setCell_same w5 p 1 _ _ v' hb, ho.kept (set_grown w5 p _ v') (.inr (own_ne ho hp).symm), h2.kept (set_grown w5 p _ v') (.inr (own_ne h2 hp).symm), fun g hg1 hg2 => ?_, (save_grown h.sav hg (fun k e => (owns_block h.r1 e).1)).trans (Save.set p 1 w5 v')⟩, ?_, ⟨?_, ?_⟩, fun b cs t fz hbc hte hbp => ?_⟩
 ·rcases hat with e | e
  ·exact h.ne g (by rw [← e]; exact hg1) hg2
  ·rw [e] at hg1
   have := (owns_block h.r2 hg2).2
   simp at hg1; omega
 ·refine ((KeepsOthers.alloc W o).trans (KeepsOthers.of_grownBy hg fun j ob ej hj => ?_)).trans (KeepsOthers.setCell _ _ _)
  rcases (h.r1.alloc o).2 with ⟨e, _⟩ | ⟨g, cap, cur, e, _, hgb, _⟩
  ·rw [e] at ej; simp [Value.ownBlock] at ej
  ·rw [e] at ej
   obtain rfl : g = j := by simpa [Value.ownBlock] using ej
   rw [hgb] at hj; cases hj; rfl
 ·exact (((Below.refl q W).alloc (by omega) o).grown hg (by simp; omega) (fun g e => by have := (owns_block h.r1 e).1; omega)).setCell (p := ⟨p, 1, none⟩) hq v'
 ·rw [Below.heap_setCell _ _ _ _ (fun e => hne e.symm), hg.block _ (by simp; omega) (own_ne h.r1 hBs), Below.heap_alloc W _ _ (by omega)]
 ·rw [Below.heap_setCell _ _ _ _ hbp, hg.block _ (by simp; have := lt_of_block hbc; omega) (row_ne h.r1 hbc hte), Below.heap_alloc W _ _ (lt_of_block hbc)]; exact hbc
theorem HmR.two {F : Fun} {np n p : Nat} {ga : Option Addr} {gc : Nat} {W0 : World} {k1 k2 : Nat} {v1 v2 v' : Value} {W w5 : World} {o : Obj} {x : Int} {q Bs : Nat} (h : HmR F np n p ga gc W0 k1 k2 v1 v2 W) (hp : p < W0.heap.size) (hq : q ≤ p) (hBs : Bs < W0.heap.size) (hne : p ≠ Bs)
  (ho : w5.ownsRow W0.heap.size 3 1 v' (k2 + 1) (encI (haI F k2) ++ [.int .i64 x])) (hx : x = ((locI F.bs k2).2 : Int)) (hg : (W.alloc o).grownBy w5 v2.ownBlock) (hat : v'.ownBlock = v2.ownBlock ∨ v'.ownBlock = some (W.alloc o).heap.size) :
  w5.heap[p]? = some (.cells #[.int .i64 np, v1, v2, .slice ga n gc] 158 (0, 0)) ∧ HmR F np n p ga gc W0 k1 (k2 + 1) v1 v' (w5.setCell ⟨p, 2, none⟩ v') ∧ KeepsOthers W (w5.setCell ⟨p, 2, none⟩ v') ∧ Kp q Bs W (w5.setCell ⟨p, 2, none⟩ v') ∧ ∀ b cs t fz, W.heap[b]? = some (.cells cs t fz) → t ≠ 3 → b ≠ p → (w5.setCell ⟨p, 2, none⟩ v').heap[b]? = some (.cells cs t fz) := by
 have hWz := h.sav.size
 have hb : w5.heap[p]? = some (.cells #[.int .i64 np, v1, v2, .slice ga n gc] 158 (0, 0)) := by
  rw [hg.block _ (by simp; have := lt_of_block h.box; omega) (own_ne h.r2 hp), Below.heap_alloc W _ _ (lt_of_block h.box)]; exact h.box
 have h1 : w5.ownsRow W0.heap.size 3 1 v1 k1 (encI (hbI F k1)) := (h.r1.alloc o).kept hg (by
  cases e : v1.ownBlock with
  | none => exact .inl rfl
  | some g => exact .inr fun e2 => h.ne g e e2.symm)
 rw [hx] at ho
 have e1 : encI (haI F k2) ++ [.int .i64 ((locI F.bs k2).2 : Int)] = encI (haI F (k2 + 1)) := by rw [haI_next]; simp [encI]
 rw [e1] at ho
 refine ⟨hb, ⟨heap_setCell_same w5 p 2 _ _ v' hb, h1.kept (set_grown w5 p _ v') (.inr (own_ne h1 hp).symm), ho.kept (set_grown w5 p _ v') (.inr (own_ne ho hp).symm), fun g hg1 hg2 => ?_, (save_grown h.sav hg (fun k e => (owns_block h.r2 e).1)).trans (Save.set p 2 w5 v')⟩, ?_, ⟨?_, ?_⟩, fun b cs t fz hbc hte hbp => ?_⟩
 ·rcases hat with e | e
  ·exact h.ne g hg1 (by rw [← e]; exact hg2)
  ·rw [e] at hg2
   have := (owns_block h.r1 hg1).2
   simp at hg2; omega
 ·refine ((KeepsOthers.alloc W o).trans (KeepsOthers.of_grownBy hg fun j ob ej hj => ?_)).trans (KeepsOthers.setCell _ _ _)
  rcases (h.r2.alloc o).2 with ⟨e, _⟩ | ⟨g, cap, cur, e, _, hgb, _⟩
  ·rw [e] at ej; simp [Value.ownBlock] at ej
  ·rw [e] at ej
   obtain rfl : g = j := by simpa [Value.ownBlock] using ej
   rw [hgb] at hj; cases hj; rfl
 ·exact (((Below.refl q W).alloc (by omega) o).grown hg (by simp; omega) (fun g e => by have := (owns_block h.r2 e).1; omega)).setCell (p := ⟨p, 2, none⟩) hq v'
 ·rw [Below.heap_setCell _ _ _ _ (fun e => hne e.symm), hg.block _ (by simp; omega) (own_ne h.r2 hBs), Below.heap_alloc W _ _ (by omega)]
 ·rw [Below.heap_setCell _ _ _ _ hbp, hg.block _ (by simp; have := lt_of_block hbc; omega) (row_ne h.r2 hbc hte), Below.heap_alloc W _ _ (lt_of_block hbc)]; exact hbc
theorem hm_fin {F : Fun} {np n p : Nat} {ga a1 a2 : Option Addr} {gc c1 c2 : Nat} {W0 : World} {k r D lo hi : Nat} {W : World} {cs : Array Value} {t : TypeId} (hM : HmR F np n p ga gc W0 k k (.slice a1 k c1) (.slice a2 k c2) W) (hrow : W.heap[r]? = some (.cells cs t (0, 0)))
  (hr : r < lo) (hrB : r < W0.heap.size) (hrb : RowsBet W0 lo hi (.slice ga n gc) (gI F)) (hhi : hi ≤ W0.heap.size) (hp : p < lo ∨ hi ≤ p) (hD : W0.heap.size ≤ D) (hK : W.heap[D]? = some (.deferred (some []))) (x0 x1 x2 x3 : Value) :
  ((((W.setCell ⟨r, 0, none⟩ x0).setCell ⟨r, 1, none⟩ x1).setCell ⟨r, 2, none⟩ x2).setCell ⟨r, 3, none⟩ x3).heap[D]? = some (.deferred (some [])) ∧ IntsIn (((((W.setCell ⟨r, 0, none⟩ x0).setCell ⟨r, 1, none⟩ x1).setCell ⟨r, 2, none⟩ x2).setCell ⟨r, 3, none⟩ x3).putObj D (.deferred none)) a1 (hbI F k) ∧
   IntsIn (((((W.setCell ⟨r, 0, none⟩ x0).setCell ⟨r, 1, none⟩ x1).setCell ⟨r, 2, none⟩ x2).setCell ⟨r, 3, none⟩ x3).putObj D (.deferred none)) a2 (haI F k) ∧ RowsIn (((((W.setCell ⟨r, 0, none⟩ x0).setCell ⟨r, 1, none⟩ x1).setCell ⟨r, 2, none⟩ x2).setCell ⟨r, 3, none⟩ x3).putObj D (.deferred none)) ga (gI F) := by
 have hDr : D ≠ r := fun e => by rw [e, hrow] at hK; cases hK
 have hk : ∀ b, b ≠ r → ((((W.setCell ⟨r, 0, none⟩ x0).setCell ⟨r, 1, none⟩ x1).setCell ⟨r, 2, none⟩ x2).setCell ⟨r, 3, none⟩ x3).heap[b]? = W.heap[b]? := fun b hb => by
  rw [Below.heap_setCell _ _ _ _ hb, Below.heap_setCell _ _ _ _ hb, Below.heap_setCell _ _ _ _ hb, Below.heap_setCell _ _ _ _ hb]
 have own : ∀ {v xs}, W.ownsRow W0.heap.size 3 1 v k xs → ((((W.setCell ⟨r, 0, none⟩ x0).setCell ⟨r, 1, none⟩ x1).setCell ⟨r, 2, none⟩ x2).setCell ⟨r, 3, none⟩ x3).ownsRow W0.heap.size 3 1 v k xs := fun {v xs} h => by
  have hne : v.ownBlock ≠ some r := (own_ne h hrB).symm
  exact (((h.kept (set_grown W r 0 x0) (.inr hne)).kept (set_grown _ r 1 x1) (.inr hne)).kept (set_grown _ r 2 x2) (.inr hne)).kept (set_grown _ r 3 x3) (.inr hne)
 have hKD := (hk D hDr).trans hK
 have h1 := own hM.r1
 have h2 := own hM.r2
 have hrb2 : RowsBet W lo hi (.slice ga n gc) (gI F) := hrb.keep fun b h1 h2 => hM.sav.block b (by omega) (by omega)
 generalize ((((W.setCell ⟨r, 0, none⟩ x0).setCell ⟨r, 1, none⟩ x1).setCell ⟨r, 2, none⟩ x2).setCell ⟨r, 3, none⟩ x3) = W4 at *
 have hrb4 : RowsBet (W4.putObj D (.deferred none)) lo hi (.slice ga n gc) (gI F) := hrb2.keep fun b h1 h2 => (World.putObj_heap_other (by omega)).trans (hk b (by omega))
 have g1 := ownsRow_putObj h1 (.deferred none) hKD rfl
 have g2 := ownsRow_putObj h2 (.deferred none) hKD rfl
 have i1 : IntsIn (W4.putObj D (.deferred none)) a1 (hbI F k) := by
  have h : (W4.putObj D (.deferred none)).ownsRow W0.heap.size 3 1 (.slice a1 k c1) (hbI F k).length (encI (hbI F k)) := by rw [hbI_len]; exact g1
  obtain ⟨_, _, e, _, hi⟩ := ints_of_owns h
  simp only [Value.slice.injEq] at e
  obtain ⟨rfl, _, _⟩ := e
  exact hi
 have i2 : IntsIn (W4.putObj D (.deferred none)) a2 (haI F k) := by
  have h : (W4.putObj D (.deferred none)).ownsRow W0.heap.size 3 1 (.slice a2 k c2) (haI F k).length (encI (haI F k)) := by rw [haI_len]; exact g2
  obtain ⟨_, _, e, _, hi⟩ := ints_of_owns h
  simp only [Value.slice.injEq] at e
  obtain ⟨rfl, _, _⟩ := e
  exact hi
 exact ⟨hKD, i1, i2, hrb4.rows rfl⟩
theorem sizeHm : (Tryz.prog.info? 158).map (·.size) = some 4 := by kernel_rfl
def HomePost (F : Fun) (w : World) (e : Ending) (w' : World) : Prop := (∃ a1 c1 a2 c2 ga gc, e = .returned (.agg #[.int .i64 (F.ps.length : Nat), .slice a1 (sumI F.bs F.bs.length) c1, .slice a2 (sumI F.bs F.bs.length) c2, .slice ga F.bs.length gc]) ∧
   IntsIn w' a1 (hbI F (sumI F.bs F.bs.length)) ∧ IntsIn w' a2 (haI F (sumI F.bs F.bs.length)) ∧ RowsIn w' ga (gI F)) ∧ Below w.heap.size w w'
set_option maxRecDepth 100000 in
set_option maxHeartbeats 2000000 in
theorem homes_any (F : Fun) (A : FunA) (w : World) (hin : FunIn w F A) (hs : FunSm F) (hp : ∀ b, b < F.bs.length → 0 < (atBk F.bs b).length) :
  Calls Tryz.prog 114 #[funV F A] w (HomePost F w) := by
 obtain ⟨pa, pc, sa, sc, ba, bc⟩ := A
 have hal : Below w.heap.size w ((w.alloc (.cells #[.slice pa F.ps.length pc, .int .i64 F.ret, .slice sa F.sl.length sc, .slice ba F.bs.length bc] 31)).alloc (.cells #[.int .i64 0, .slice none 0 0, .slice none 0 0, .slice none 0 0] 158)) := ((Below.refl _ _).alloc (Nat.le_refl _) _).alloc (by simp) _
 have HI := Lib.hid (hin.below hal)
 have hr1 : ((w.alloc (.cells #[.slice pa F.ps.length pc, .int .i64 F.ret, .slice sa F.sl.length sc, .slice ba F.bs.length bc] 31)).alloc (.cells #[.int .i64 0, .slice none 0 0, .slice none 0 0, .slice none 0 0] 158)).heap[w.heap.size + 1]? = some ((.cells #[.int .i64 0, .slice none 0 0, .slice none 0 0, .slice none 0 0] 158) : Obj) := by
  have := heap_alloc_new (w.alloc (.cells #[.slice pa F.ps.length pc, .int .i64 F.ret, .slice sa F.sl.length sc, .slice ba F.bs.length bc] 31)) (.cells #[.int .i64 0, .slice none 0 0, .slice none 0 0, .slice none 0 0] 158)
  simpa using this
 have hr0 : ((w.alloc (.cells #[.slice pa F.ps.length pc, .int .i64 F.ret, .slice sa F.sl.length sc, .slice ba F.bs.length bc] 31)).alloc (.cells #[.int .i64 0, .slice none 0 0, .slice none 0 0, .slice none 0 0] 158)).heap[w.heap.size]? = some ((.cells #[.slice pa F.ps.length pc, .int .i64 F.ret, .slice sa F.sl.length sc, .slice ba F.bs.length bc] 31) : Obj) := by
  rw [Below.heap_alloc _ _ _ (by simp)]
  exact heap_alloc_new _ _
 have hz1 : ((w.alloc (.cells #[.slice pa F.ps.length pc, .int .i64 F.ret, .slice sa F.sl.length sc, .slice ba F.bs.length bc] 31)).alloc (.cells #[.int .i64 0, .slice none 0 0, .slice none 0 0, .slice none 0 0] 158)).heap.size = w.heap.size + 2 := by simp
 have HB0 := Lib.hid hal
 have HR0 := Lib.hid hr0; have HR1 := Lib.hid hr1
 have g0 := cell_of_row _ _ 0 _ _ _ hr0; have g1 := cell_of_row _ _ 1 _ _ _ hr0; have g2 := cell_of_row _ _ 2 _ _ _ hr0; have g3 := cell_of_row _ _ 3 _ _ _ hr0
 have HG0 := Lib.hid g0; have HG1 := Lib.hid g1; have HG2 := Lib.hid g2; have HG3 := Lib.hid g3
 have HSm := Lib.hid hs
 have HGr := Lib.hid (fun u (h : FunIn u F ⟨pa, pc, sa, sc, ba, bc⟩) => graph_any F ⟨pa, pc, sa, sc, ba, bc⟩ u h.bs (by have := hs.bs; omega) (fun k hk => ⟨hp k hk, Nat.le_trans (hs.ins k hk) (by omega)⟩) (fun k hk => Nat.le_trans (hs.gI hp k hk) (by omega)))
 have HAl := Lib.hid (all_any F ⟨pa, pc, sa, sc, ba, bc⟩)
 have HZ1 := Lib.hid hz1
 have HGl := Lib.hid (gI_len F)
 clear hin hal hr0 hr1 hs hp hz1
 simp only [funV, funC] at HGr HAl ⊢
 obtain ⟨PP, hPP⟩ : ∃ PP, HomePost F w = PP := ⟨_, rfl⟩
 rw [hPP]
 have HPP : Hid (∀ e w', HomePost F w e w' → PP e w') := Lib.hid fun e w' h => hPP ▸ h
 clear hPP
 generalize hn : F.bs.length = n at *
 have HN := Lib.hid hn; clear hn
 generalize hnp : F.ps.length = np at *
 have HNp := Lib.hid hnp; clear hnp
 refine (callsIn_wide (n := 3)).1 ?_
 refine callsIn_of_wp_marks Tryz.func114 rfl trivial ?_ rfl
 simp only [Tryz.ntmps114, List.size_toArray, List.length_cons, List.length_nil, Nat.reduceAdd, Nat.reduceSub, Array.replicate_succ, Array.replicate_zero, List.push_toArray, List.append_toArray, List.nil_append, List.cons_append]
 refine wpIn_wide.2 ?_
 go_upto_region 1 with (fail)
 generalize ((w.alloc _).alloc _) = w1 at *
 go_cut [3] from 5 to 10 (fun v wx => ∃ p, v = .pointer (some ⟨p, 0, none⟩) ∧ HmO F w.heap.size w1 np n p wx)
 case first =>
  have hS : Below w1.heap.size w1 w1 ∧ w1.heap.size ≤ w1.heap.size ∧ w1.cell? ⟨w.heap.size, 0, none⟩ = some (.slice pa np pc) ∧ w1.cell? ⟨w.heap.size, 1, none⟩ = some (.int .i64 F.ret) ∧ w1.cell? ⟨w.heap.size, 2, none⟩ = some (.slice sa F.sl.length sc) ∧ w1.cell? ⟨w.heap.size, 3, none⟩ = some (.slice ba n bc) := ⟨Below.refl _ _, Nat.le_refl _, HG0.out, HG1.out, HG2.out, HG3.out⟩
  have HGq := Lib.hid (fun u (hu : Below w1.heap.size w1 u) => HGr.out u (HI.out.below hu))
  have HLt : Hid (w.heap.size < w1.heap.size) := Lib.hid (by rw [HZ1.out]; omega)
  clear g0 g1 g2 g3
  go_region_held3 (fun w' => Below w1.heap.size w1 w' ∧ w1.heap.size ≤ w'.heap.size ∧ w'.cell? ⟨w.heap.size, 0, none⟩ = some (.slice pa np pc) ∧ w'.cell? ⟨w.heap.size, 1, none⟩ = some (.int .i64 F.ret) ∧ w'.cell? ⟨w.heap.size, 2, none⟩ = some (.slice sa F.sl.length sc) ∧ w'.cell? ⟨w.heap.size, 3, none⟩ = some (.slice ba n bc))
   (first | exact hS | exact hS4 | exact held_4s HLt.out hS4 _ _ _ _ | exact held_4h hS (below_drew1 (Below.refl _ _)) | exact held_4h (by assumption) (by assumption) | exact held_4h (by assumption) ((Below.refl _ _).alloc (Nat.le_refl _) _))
   (first | (go_at_call 107; refine (HGq.out _ (And.left ‹Below w1.heap.size w1 _ ∧ _›)).mono ?_; rintro e w4 ⟨⟨v, rfl, hro⟩, hb4⟩; obtain ⟨ga, gc, rfl⟩ := hro.shape; have hS4 := held_4h (‹Below w1.heap.size w1 _ ∧ w1.heap.size ≤ _ ∧ _›) hb4; (try (have ht4 := (hb4.block w1.heap.size (by simp)).trans (heap_alloc_new w1.drew (.cells #[.int .i64 0, .slice none 0 0, .slice none 0 0, .slice none 0 0] 158)); have e0 := cell_of_row _ _ 0 _ _ _ ht4; have e1 := cell_of_row _ _ 1 _ _ _ ht4; have e2 := cell_of_row _ _ 2 _ _ _ ht4; have e3 := cell_of_row _ _ 3 _ _ _ ht4; have z0 := frozen_of_row _ _ 0 _ _ ht4; have z1 := frozen_of_row _ _ 1 _ _ ht4; have z2 := frozen_of_row _ _ 2 _ _ ht4; have z3 := frozen_of_row _ _ 3 _ _ ht4))))
  ·have hm := hm_b (q := w.heap.size) (np := np) hb4 HGl.out hro
   rw [HGl.out] at hm ⊢
   go_wp2_with fail
   go_meet
   case rel => exact ⟨_, rfl, hm⟩
  ·have hm := hm_a (q := w.heap.size) (np := np) hb4 HGl.out hro
   rw [HGl.out] at hm ⊢
   go_wp2_with fail
   go_meet
   case rel => exact ⟨_, rfl, hm⟩
 case rest =>
  obtain ⟨p, rfl, ⟨ga, gc, hbox, lo, hie, hrb, hlo, hhi, hl1⟩, hlow, hge⟩ := hcut
  have HL1 := Lib.hid hl1; clear hl1
  obtain ⟨i0, hi, hz0, hz1, hz2⟩ := info_parts Tryz.infoInt
  have HBc := Lib.hid hlow
  have HIc := Lib.hid (HI.out.below hlow)
  have d0 := keep HG0.out hlow; have d1 := keep HG1.out hlow; have d2 := keep HG2.out hlow; have d3 := keep HG3.out hlow
  have HRb := Lib.hid hrb; have HBox := Lib.hid hbox; have HLo := Lib.hid hlo; have HHi := Lib.hid hhi; have HGe := Lib.hid hge
  clear hlow hbox hrb hlo hhi hge g0 g1 g2 g3
  go_wp2_with fail
  refine (HAl.out _).mono ?_; rintro e w6 ⟨rfl, rfl⟩
  clear d0 d1 d2 d3
  go_wp2_with fail
  have hba : Below wc.heap.size wc (wc.alloc (.cells #[.slice pa np pc, .int .i64 F.ret, .slice sa F.sl.length sc, .slice ba n bc] 31)) := (Below.refl _ _).alloc (Nat.le_refl _) _
  have hfn : (wc.alloc (.cells #[.slice pa np pc, .int .i64 F.ret, .slice sa F.sl.length sc, .slice ba n bc] 31)).heap[wc.heap.size]? = some ((.cells #[.slice pa np pc, .int .i64 F.ret, .slice sa F.sl.length sc, .slice ba n bc] 31) : Obj) := heap_alloc_new _ _
  have HB6 := Lib.hid (HBc.out.trans (hba.mono HBc.out.size))
  have HBx := Lib.hid ((hba.block _ (lt_of_block HBox.out)).trans HBox.out)
  have HPl := Lib.hid (lt_of_block HBox.out)
  have hBs : wc.heap.size < (wc.alloc (.cells #[.slice pa np pc, .int .i64 F.ret, .slice sa F.sl.length sc, .slice ba n bc] 31)).heap.size := by simp
  have HRb6 := Lib.hid (HRb.out.keep (fun b _ h2 => hba.block b (Nat.lt_of_lt_of_le h2 HHi.out)))
  have HPn := Lib.hid (show p ≠ wc.heap.size from Nat.ne_of_lt (lt_of_block HBox.out))
  clear hba
  generalize wc.alloc _ = w6 at *
  generalize wc.heap.size = Bs at *
  have HHi6 := Lib.hid (Nat.le_trans HHi.out (Nat.le_of_lt hBs))
  have HPB := Lib.hid (Nat.lt_trans HPl.out hBs)
  have HIw := Lib.hid HI.out
  obtain ⟨E, hE⟩ := HIw.out.bs.places
  have g0 := cell_of_row _ _ 0 _ _ _ hfn; have g3 := cell_of_row _ _ 3 _ _ _ hfn
  have hbl : F.bs.length ≤ 1000 := by have := HSm.out.bs; omega
  have hbn : ∀ k, k < F.bs.length → (atBk F.bs k).length ≤ 1000 := fun k hk => Nat.le_trans (HSm.out.ins k hk) (by omega)
  have hpl := HSm.out.ps
  have HSl : Hid (sumI F.bs F.bs.length ≤ 1000000) := Lib.hid (by
   have h1 := sumI_le 1000 hbn F.bs.length (Nat.le_refl _)
   have h2 : 1000 * F.bs.length ≤ 1000 * 1000 := Nat.mul_le_mul_left _ hbl
   omega)
  refine (wpIn_wide (n := 3)).1 ?_
  refine range_all (p := 13) (s := 4) F ⟨pa, pc, sa, sc, ba, bc⟩ E Bs rfl hbl hbn (by omega) w1 HB6.out hE hBs (by rw [HNp.out]; exact g0) (by rw [HN.out]; exact g3) (fun k W => ∃ v1 v2, HmR F np n p ga gc w6 k k v1 v2 W) (fun _ _ _ => False)
   (fun k A' A'' ht h => by obtain ⟨v1, v2, h⟩ := h; exact ⟨v1, v2, h.turn ht⟩) (fun _ _ _ _ _ h => h) ⟨_, _, HBx.out, by simpa [hbI, encI] using owns_nil _ _ _ _, by simpa [haI, encI] using owns_nil _ _ _ _, fun g h => by simp [Value.ownBlock] at h, Save.refl _ _⟩ (fun k W h => by obtain ⟨v1, v2, h⟩ := h; exact h.sav.size) ?assign ?body ?done ?stop
  case assign =>
   intro l k W K hK
   gi_wp2
   exact hK
  case body =>
   intro l k W Bx hl hI hk hBx hx
   obtain ⟨v1, v2, hM⟩ := hI
   have x7 := hx.cell.2.2.2.2.2.2.2.1
   have HMm := Lib.hid hM
   have p1 := cell_of_row _ _ 1 _ _ _ hM.box
   have HSz := Lib.hid hM.sav.size
   have hkk : k < 1000000 := Nat.lt_of_lt_of_le hk HSl.out
   have HS63 : Hid (k + 1 ≤ maxLen) := Lib.hid (by unfold maxLen; omega)
   have HSb : Hid ((k + 1) * 8 ≤ 140737488355328) := Lib.hid (by omega)
   have HXx := Lib.hid hx
   clear hM hx
   obtain ⟨va1, vc1, rfl⟩ := owns_shape HMm.out.r1
   obtain ⟨va2, vc2, rfl⟩ := owns_shape HMm.out.r2
   have HPx := Lib.hid (show Bx ≠ p from by have := HPB.out; omega)
   gi_wp2_with (first | (gi_at_builtin; have hq5 := HM5.out; clear hq5; refine wpListIn_append_own_at _ rfl _ _ 28 rfl w6.heap.size 3 i0 (.int .i64 0) 1 8 Tryz.underlying28 hi hz0 hz1 hz2 rfl (by decide) (.slice va2 k vc2) k _ rfl (HM5.out.r2.alloc _) ⟨w5.heap.size, 0, none⟩ 1 1 [.int .i64 ((locI F.bs k).2 : Int)] rfl rfl (cells_one HC9.out) (by simp [Value.oneCell']) HS63.out HSb.out HZ9.out ?_; intro v7 w7 ho7 hg7 _ ha7; obtain ⟨g7, c7, rfl⟩ := ownsRow_succ ho7; obtain ⟨hb7, hM7, hk7, hp7, _⟩ := HM5.out.two HPB.out HGe.out hBs HPn.out ho7 rfl hg7 ha7; have c72 := cell_of_row _ _ 2 _ _ _ hb7; have f72 := frozen_of_row _ p 2 _ _ hb7; have HM7 := Lib.hid hM7; have HK7 := Lib.hid hk7; have HP7 := Lib.hid hp7; clear hk7 hp7 hM7 hb7 ho7 hg7 ha7) | (gi_at_builtin; refine wpListIn_append_own_at _ rfl _ _ 28 rfl w6.heap.size 3 i0 (.int .i64 0) 1 8 Tryz.underlying28 hi hz0 hz1 hz2 rfl (by decide) (.slice va1 k vc1) k _ rfl (HMm.out.r1.alloc _) ⟨W.heap.size, 0, none⟩ 1 1 [.int .i64 ((locI F.bs k).1 : Int)] rfl rfl (cell_one_new _ _ _) (by simp [Value.oneCell']) HS63.out HSb.out (by simp; exact Nat.le_succ_of_le HSz.out) ?_; intro v5 w5 ho5 hg5 _ ha5; obtain ⟨g5, c5, rfl⟩ := ownsRow_succ ho5; obtain ⟨hb5, hM5, hk5, hp5, hx5⟩ := HMm.out.one HPB.out HGe.out hBs HPn.out ho5 rfl hg5 ha5; have c51 := cell_of_row _ _ 1 _ _ _ hb5; have f51 := frozen_of_row _ p 1 _ _ hb5; have HM5 := Lib.hid hM5; have c52 := cell_of_row _ _ 2 _ _ _ hM5.box; have hx5 := hx5 _ _ _ _ HXx.out (by decide) (HPx.out); have x85 := cell_of_row _ _ 8 _ _ _ hx5; have HK5 := Lib.hid hk5; have HP5 := Lib.hid hp5; have HZ9 : Hid (w6.heap.size ≤ ((w5.setCell ⟨p, 1, none⟩ (.slice (some ⟨g5, 0, none⟩) (k + 1) c5)).alloc (.cells #[.int .i64 ((locI F.bs k).2 : Int)] 3)).heap.size) := Lib.hid (Nat.le_trans hM5.sav.size (by simp)); have HC9 : Hid (((w5.setCell ⟨p, 1, none⟩ (.slice (some ⟨g5, 0, none⟩) (k + 1) c5)).alloc (.cells #[.int .i64 ((locI F.bs k).2 : Int)] 3)).cell? ⟨w5.heap.size, 0, none⟩ = some (.int .i64 ((locI F.bs k).2 : Int))) := Lib.hid (one_at (w5.setCell ⟨p, 1, none⟩ (.slice (some ⟨g5, 0, none⟩) (k + 1) c5)) (.int .i64 ((locI F.bs k).2 : Int)) 3 w5.heap.size (by simp))); clear hk5 hp5 hM5 hb5 hx5 ho5 hg5 ha5)
   exact ⟨(HK5.out.trans HK7.out).from _, HP5.out.trans HP7.out, _, _, HM7.out⟩
  case done =>
   intro D W hD hI hK
   obtain ⟨v1, v2, hM⟩ := hI
   obtain ⟨va1, vc1, rfl⟩ := owns_shape hM.r1
   obtain ⟨va2, vc2, rfl⟩ := owns_shape hM.r2
   have HMd := Lib.hid hM
   have hrow : W.heap[w.heap.size + 1]? = some ((.cells #[.int .i64 0, .slice none 0 0, .slice none 0 0, .slice none 0 0] 158) : Obj) := by
    have h1 : w.heap.size + 1 < w1.heap.size := by rw [HZ1.out]; omega
    have h2 : w.heap.size + 1 < w6.heap.size := Nat.lt_of_lt_of_le h1 HB6.out.size
    rw [hM.sav.block _ h2 (by have := HGe.out; omega), HB6.out.block _ h1]
    exact HR1.out
   have HRow := Lib.hid hrow
   have q0 := cell_of_row _ _ 0 _ _ _ hM.box; have q1 := cell_of_row _ _ 1 _ _ _ hM.box; have q2 := cell_of_row _ _ 2 _ _ _ hM.box; have q3 := cell_of_row _ _ 3 _ _ _ hM.box
   have e0 := cell_of_row _ _ 0 _ _ _ hrow; have e1 := cell_of_row _ _ 1 _ _ _ hrow; have e2 := cell_of_row _ _ 2 _ _ _ hrow; have e3 := cell_of_row _ _ 3 _ _ _ hrow
   have f0 := frozen_of_row _ _ 0 _ _ hrow; have f1 := frozen_of_row _ _ 1 _ _ hrow; have f2 := frozen_of_row _ _ 2 _ _ hrow; have f3 := frozen_of_row _ _ 3 _ _ hrow
   have HKd := Lib.hid hK
   have HDd := Lib.hid hD
   clear hM hrow hK hD
   go_wp2_with fail
   have hfin := hm_fin HMd.out HRow.out (by have := HL1.out; rw [HZ1.out] at this; omega) (Nat.lt_of_lt_of_le (by rw [HZ1.out]; omega) HB6.out.size) HRb6.out HHi6.out HLo.out HDd.out HKd.out (.int .i64 np) (.slice va1 (sumI F.bs F.bs.length) vc1) (.slice va2 (sumI F.bs F.bs.length) vc2) (.slice ga n gc)
   have hb4 : Below w.heap.size w ((((W.setCell ⟨w.heap.size + 1, 0, none⟩ (.int .i64 np)).setCell ⟨w.heap.size + 1, 1, none⟩ (.slice va1 (sumI F.bs F.bs.length) vc1)).setCell ⟨w.heap.size + 1, 2, none⟩ (.slice va2 (sumI F.bs F.bs.length) vc2)).setCell ⟨w.heap.size + 1, 3, none⟩ (.slice ga n gc)) :=
    ((((HB0.out.trans ((HB6.out.trans (HMd.out.sav.below HGe.out HB6.out.size)).mono HB0.out.size)).setCell (p := ⟨w.heap.size + 1, 0, none⟩) (Nat.le_succ _) _).setCell (p := ⟨w.heap.size + 1, 1, none⟩) (Nat.le_succ _) _).setCell (p := ⟨w.heap.size + 1, 2, none⟩) (Nat.le_succ _) _).setCell (p := ⟨w.heap.size + 1, 3, none⟩) (Nat.le_succ _) _
   have h4 := heap_setCell_same _ (w.heap.size + 1) 3 _ _ (.slice ga n gc) (heap_setCell_same _ (w.heap.size + 1) 2 _ _ (.slice va2 (sumI F.bs F.bs.length) vc2) (heap_setCell_same _ (w.heap.size + 1) 1 _ _ (.slice va1 (sumI F.bs F.bs.length) vc1) (heap_setCell_same W (w.heap.size + 1) 0 _ _ (.int .i64 np) HRow.out)))
   obtain ⟨f1, f2, f3, f4⟩ := hfin
   have hDr : w.heap.size + 1 ≠ D := fun e => by rw [← e, h4] at f1; cases f1
   refine ⟨by simp, .inl ⟨_, _, rfl, run_takeDeferred f1, ⟨_, results_cell_row rfl _ _ (w.heap.size + 1) 158 _ _ _ rfl ((World.putObj_heap_other hDr).trans h4) Tryz.underlying158 rfl sizeHm, HPP.out _ _ ?_⟩⟩⟩
   refine ⟨⟨va1, vc1, va2, vc2, ga, gc, ?_, f2, f3, f4⟩, hb4.trans (belowK_b (w := w) (Nat.le_refl _) _ D _ _ (Nat.le_trans (HB0.out.trans (HB6.out.mono HB0.out.size)).size HDd.out) f1 rfl rfl)⟩
   rw [HNp.out, HN.out]; rfl
  case stop =>
   intro D c k W _ _ h _
   exact h.elim
end Go.Proofs.YtbbbflnnbbaamaaGreatDoor.PK
