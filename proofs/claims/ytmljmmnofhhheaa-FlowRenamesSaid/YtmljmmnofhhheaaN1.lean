/- How a list of lists lies in memory while it is made; an append within a region whose order is drawn. -/
import Derived.Test.YtmljmmnofhhheaaM8
import Derived.Test.YtmljmmnofhhheaaWS
import Derived.Test.YtmljmmnofhhheaaL3
namespace Go.Proofs.Ytmljmmnofhhheaa
open Go.RowKit

def valArr (n : Nat) (f : Nat → Value) : Array Value := (Array.range n).map f
theorem valArr_size (n : Nat) (f : Nat → Value) : (valArr n f).size = n := by simp [valArr]
theorem valArr_get (n : Nat) (f : Nat → Value) (k : Nat) (h : k < n) : (valArr n f)[k]? = some (f k) := by
  simp [valArr, h]
def upd (f : Nat → Value) (v : Nat) (x : Value) : Nat → Value := fun j => if j = v then x else f j
theorem upd_at (f : Nat → Value) (v : Nat) (x : Value) : upd f v x v = x := if_pos rfl
theorem upd_ne {f : Nat → Value} {v j : Nat} {x : Value} (h : j ≠ v) : upd f v x j = f j := if_neg h
theorem upd_upd (f : Nat → Value) (v : Nat) (x y : Value) : upd (upd f v x) v y = upd f v y := by
  funext j
  unfold upd
  split <;> rfl
theorem upd_same {f : Nat → Value} {v : Nat} {x : Value} (h : f v = x) : upd f v x = f := by
  funext j
  unfold upd
  split
  · rename_i e; rw [e, h]
  · rfl
theorem valArr_set (n : Nat) (f : Nat → Value) (v : Nat) (x : Value) : (valArr n f).setIfInBounds v x = valArr n (upd f v x) := by
  apply Array.ext
  · simp [valArr]
  · intro i h1 h2
    have hi : i < n := by simpa [valArr] using h2
    rw [Array.getElem_setIfInBounds (by simpa [valArr] using hi)]
    by_cases c : v = i
    · subst c; simp [valArr, upd]
    · have c' : ¬ i = v := fun e => c e.symm
      simp [valArr, upd, c, c']
theorem valArr_made (n : Nat) (x : Value) : madeCells #[x] n = valArr n (fun _ => x) := by
  unfold madeCells valArr
  congr 1
  funext j
  simp [Nat.mod_one]
/-- A block that is a row of n values. -/
def VRow (w : World) (q n : Nat) (f : Nat → Value) : Prop := w.heap[q]? = some (.cells (valArr n f) 32 (0, 0))
theorem VRow.cell {w : World} {q n : Nat} {f : Nat → Value} (h : VRow w q n f) {k : Nat} (hk : k < n) : w.cell? ⟨q, k, none⟩ = some (f k) := by
  rw [cell_of_row w q k _ _ _ h]; exact valArr_get n f k hk
theorem VRow.free {w : World} {q n : Nat} {f : Nat → Value} (h : VRow w q n f) (k : Nat) : w.frozen? ⟨q, k, none⟩ = false := frozen_of_row w q k _ _ h
theorem VRow.lt {w : World} {q n : Nat} {f : Nat → Value} (h : VRow w q n f) : q < w.heap.size := lt_of_block h
theorem VRow.set {w : World} {q n : Nat} {f : Nat → Value} (h : VRow w q n f) (v : Nat) (x : Value) : VRow (w.setCell ⟨q, v, none⟩ x) q n (upd f v x) := by
  unfold VRow
  rw [heap_setCell_same w q v _ _ _ h, valArr_set n f v x]
theorem VRow.below {w w' : World} {q n : Nat} {f : Nat → Value} (h : VRow w q n f) {B : Nat} (hb : Below B w w') (hq : q < B) : VRow w' q n f := by
  unfold VRow; rw [hb.block q hq]; exact h
theorem VRow.alloc {w : World} {q n : Nat} {f : Nat → Value} (h : VRow w q n f) (o : Obj) : VRow (w.alloc o) q n f := by
  unfold VRow; rw [heap_past _ _ _ h.lt]; exact h
theorem VRow.grown {w w' : World} {q n : Nat} {f : Nat → Value} {row : Option Nat} (h : VRow w q n f) (hg : w.grownBy w' row) (hr : ∀ k, row = some k → q < k) : VRow w' q n f := by
  unfold VRow; rw [hg.block q h.lt (fun e => by have := hr q e.symm; omega)]; exact h
theorem Try.infoRow : (Try.prog.info? 32).map (fun i => (i.zero, i.size, i.bytes)) = some (some (.slice none 0 0), 1, 24) := by kernel_rfl

/-- A made row that does not lie in the block q. -/
def RowAt (w : World) (q : Nat) (v : Value) (xs : List Int) : Prop := ∃ a cap, v = .slice a xs.length cap ∧ IntsIn w a xs ∧ ∀ b off, a = some ⟨b, off, none⟩ → b ≠ q
theorem RowAt.save {w w' : World} {q : Nat} {v : Value} {xs : List Int} (h : RowAt w q v xs) (hs : Save q w w') : RowAt w' q v xs := by
  obtain ⟨a, cap, rfl, hi, hne⟩ := h
  refine ⟨a, cap, rfl, fun k hk => ?_, hne⟩
  obtain ⟨b, off, rfl, hc⟩ := hi k hk
  exact ⟨b, off, rfl, hs.cell (hne b off rfl) hc⟩
def encI (xs : List Int) : List Value := xs.map fun x => .int .i64 x
theorem encI_snoc (xs : List Int) (x : Int) : encI (xs ++ [x]) = encI xs ++ [.int .i64 x] := by simp [encI]
theorem rowAt_owns {w : World} {base q : Nat} {e : TypeId} {v : Value} {xs : List Int} (h : w.ownsRow base e 1 v xs.length (encI xs)) (hq : q < base) : RowAt w q v xs := by
  obtain ⟨_, h | ⟨g, cap, cur, rfl, hb, hg, hnc, hm, hcs, ht⟩⟩ := h
  · obtain ⟨rfl, h0⟩ := h
    have : xs = [] := List.length_eq_zero_iff.1 h0
    subst this
    exact ⟨none, 0, rfl, fun k hk => absurd hk (Nat.not_lt_zero _), fun b off e => by cases e⟩
  · refine ⟨_, cap, rfl, fun k hk => ⟨g, 0, rfl, ?_⟩, fun b off e => ?_⟩
    · rw [Nat.zero_add, cell_of_row w g k _ _ _ hg]
      have : (encI xs)[k]? = some (.int .i64 (xs.getD k 0)) := by
        simp [encI, List.getElem?_eq_getElem hk, List.getD_eq_getElem?_getD]
      rw [← ht, List.getElem?_take, if_pos (by omega)] at this
      simpa using this
    · simp only [Option.some.injEq, Addr.mk.injEq, and_true] at e
      omega
theorem rowAt_form {w : World} {base n : Nat} {e : TypeId} {v : Value} {xs : List Value} (h : w.ownsRow base e 1 v n xs) : ∃ a cap, v = .slice a n cap := by
  obtain ⟨_, h | ⟨g, cap, cur, rfl, _⟩⟩ := h
  · obtain ⟨rfl, rfl⟩ := h
    exact ⟨none, 0, rfl⟩
  · exact ⟨_, cap, rfl⟩

theorem step_append_own {P : Program} {ops : Array Oper} {o : Oper} {a : Act} {w : World} {K : Act → World → Prop} {Q : Exit → Act → World → Prop} {E : Prop}
    (hg : o.guard = none) (s x : Operand) (t : TypeId) (hop : o.op = Op.call { callee := Callee.builtin Builtin.append, args := #[s, x], argTypes := #[t, t] })
    (base : Nat) (e : TypeId) (i : TypeInfo) (z : Value) (size bytes : Nat) (h1 : P.underlying t = some (.slice e)) (h2 : P.info? e = some i) (h3 : i.zero = some z) (h4 : i.size = size) (h5 : i.bytes = bytes) (h6 : z.cells.size = size) (h7 : 0 < size)
    (v : Value) (n : Nat) (xs : List Value) (hs : a.eval s = v) (hown : w.ownsRow base e size v n xs)
    (ad : Addr) (m c : Nat) (news : List Value) (hx : a.eval x = .slice (some ad) m c) (hn : news.length = m * size) (hc : ∀ j u, news[j]? = some u → w.cell? (ad.add j) = some u) (h1c : ∀ u ∈ news, u.oneCell' = true)
    (b1 : n + m ≤ maxLen) (b2 : (n + m) * bytes ≤ 140737488355328) (hbase : base ≤ w.heap.size)
    (hK : ∀ v' w', w'.ownsRow base e size v' (n + m) (xs ++ news) → w.grownBy w' v.ownBlock → K (a.put o.dst v') w') :
    if Region.wanted o (yielded ops a.tmps) = true then Oper.wp P o a w K Q else E := by
  have hw : Region.wanted o (yielded ops a.tmps) = true := by simp [Region.wanted, hg]
  rw [if_pos hw]
  obtain ⟨v', w', hrun, r1, r2, _⟩ := run_append_own (P := P) w base t o.type e i z size bytes h1 h2 h3 h4 h5 h6 h7 v n xs hown ad m c news hn hc h1c b1 b2 hbase
  unfold Oper.wp
  simp [execOp, hop, resolve, invoke, builtin, hs, hx, hrun, Result.andThen]
  exact hK v' w' r1 r2

/-- What Rename answers. -/
def renE (g : List (List Int)) (to : List Int) : Int := if validE g = 0 then (if permB to g.length then 0 else 1) else validE g
def renI (g : List (List Int)) (to : List Int) (v : Nat) : List Int := (succ (gN g) (posOf to v)).map fun x => to.getD x 0
def renL (g : List (List Int)) (to : List Int) : List (List Int) := if renE g to = 0 then (List.range g.length).map (renI g to) else []
def RowsSl (w : World) (v : Value) (L : List (List Int)) : Prop := ∃ a cap, v = .slice a L.length cap ∧ RowsIn w a L
def RowsPost (E : Int) (L : List (List Int)) (w : World) (e : Ending) (w' : World) : Prop := ∃ v, e = .returned (.tuple #[v, .int .i64 E]) ∧ RowsSl w' v L ∧ Below w.heap.size w w'
theorem RowsSl.nil (w : World) : RowsSl w (.slice none 0 0) [] := ⟨none, 0, rfl, fun _ hk => absurd hk (Nat.not_lt_zero _)⟩
theorem rowsSl_made {w : World} {q n : Nat} {f : Nat → Value} {R : Nat → List Int} (h : VRow w q n f) (hr : ∀ j, j < n → RowAt w q (f j) (R j)) : RowsSl w (.slice (some ⟨q, 0, none⟩) n n) ((List.range n).map R) := by
  have hl : ((List.range n).map R).length = n := by simp
  refine ⟨some ⟨q, 0, none⟩, n, by rw [hl], fun k hk => ?_⟩
  rw [hl] at hk
  have eg : ((List.range n).map R).getD k [] = R k := by simp [List.getD_eq_getElem?_getD, hk]
  rw [eg]
  obtain ⟨a, cap, e, hi, _⟩ := hr k hk
  have hc := h.cell hk
  rw [e] at hc
  exact ⟨q, 0, a, cap, rfl, by rw [Nat.zero_add]; exact hc, hi⟩
end Go.Proofs.Ytmljmmnofhhheaa
