/- The search for colors; the walks of the closures of Colors that ask whether a color fits. -/
import Derived.Test.YtgpacajlfclobaaQ1
import Derived.Test.YtgpacajlfclobaaI
namespace Go.Proofs.Ytgpacajlfclobaa
open Go.RowKit

def upd (g : Regs) (v c : Nat) : Regs := fun j => if j = v then c else g j
theorem upd_at (g : Regs) (v c : Nat) : upd g v c v = c := if_pos rfl
theorem upd_ne {g : Regs} {v c j : Nat} (h : j ≠ v) : upd g v c j = g j := if_neg h
/-- An edge from the place v to one before it that has this color. -/
def touchF (g : Regs) (v c : Nat) (e : Nat × Nat) : Bool := (decide (e.1 = v) && (decide (e.2 < v) && decide (g e.2 = c))) || (decide (e.2 = v) && (decide (e.1 < v) && decide (g e.1 = c)))
def fitF (E : List (Nat × Nat)) (g : Regs) (v c : Nat) : Bool := !(E.any (touchF g v c))
/-- Whether the places from v on can be given colors. -/
def canF (E : List (Nat × Nat)) (k : Nat) : Nat → Nat → Nat → Regs → Bool
  | 0, _, _, _ => true
  | d + 1, v, u, g => (List.range (min (u + 1) k)).any fun c => fitF E g v c && canF E k d (v + 1) (max u (c + 1)) (upd g v c)
theorem touchF_congr {g g' : Regs} {v c : Nat} (h : ∀ j, j < v → g j = g' j) (e : Nat × Nat) : touchF g v c e = touchF g' v c e := by
  unfold touchF
  have h1 : (decide (e.2 < v) && decide (g e.2 = c)) = (decide (e.2 < v) && decide (g' e.2 = c)) := by
    by_cases hl : e.2 < v
    · rw [h _ hl]
    · simp [hl]
  have h2 : (decide (e.1 < v) && decide (g e.1 = c)) = (decide (e.1 < v) && decide (g' e.1 = c)) := by
    by_cases hl : e.1 < v
    · rw [h _ hl]
    · simp [hl]
  rw [h1, h2]
theorem fitF_congr {E : List (Nat × Nat)} {g g' : Regs} {v c : Nat} (h : ∀ j, j < v → g j = g' j) : fitF E g v c = fitF E g' v c := by
  unfold fitF
  have : touchF g v c = touchF g' v c := funext (touchF_congr h)
  rw [this]
theorem upd_congr {g g' : Regs} {v c : Nat} (h : ∀ j, j < v → g j = g' j) : ∀ j, j < v + 1 → upd g v c j = upd g' v c j := fun j hj => by
  by_cases e : j = v
  · subst e; rw [upd_at, upd_at]
  · rw [upd_ne e, upd_ne e]; exact h j (by omega)
theorem canF_congr {E : List (Nat × Nat)} {k : Nat} : ∀ d v u {g g' : Regs}, (∀ j, j < v → g j = g' j) → canF E k d v u g = canF E k d v u g'
  | 0, _, _, _, _, _ => rfl
  | d + 1, v, u, g, g', h => by
    unfold canF
    congr 1
    funext c
    rw [fitF_congr h, canF_congr d (v + 1) _ (upd_congr h)]
def tryB (E : List (Nat × Nat)) (k d v u : Nat) (g : Regs) (c : Nat) : Bool := fitF E g v c && canF E k d (v + 1) (max u (c + 1)) (upd g v c)
theorem canF_yes {E : List (Nat × Nat)} {k d v u : Nat} {g : Regs} {c : Nat} (hc : c < min (u + 1) k) (h : tryB E k d v u g c = true) : canF E k (d + 1) v u g = true := by
  unfold canF
  rw [List.any_eq_true]
  exact ⟨c, List.mem_range.2 hc, h⟩
theorem canF_no {E : List (Nat × Nat)} {k d v u : Nat} {g : Regs} (h : ∀ c, c < min (u + 1) k → tryB E k d v u g c = false) : canF E k (d + 1) v u g = false := by
  unfold canF
  rw [List.any_eq_false]
  intro c hc
  have := h c (List.mem_range.1 hc)
  unfold tryB at this
  rw [this]; simp
/-- The colors of the places before v are right. -/
structure GoodF (E : List (Nat × Nat)) (k : Nat) (g : Regs) (v : Nat) : Prop where
  lt : ∀ j, j < v → g j < k
  no : ∀ e ∈ E, e.1 < v → e.2 < v → g e.1 ≠ g e.2
theorem GoodF.zero {E : List (Nat × Nat)} {k : Nat} {g : Regs} : GoodF E k g 0 := ⟨fun _ h => absurd h (Nat.not_lt_zero _), fun _ _ h => absurd h (Nat.not_lt_zero _)⟩
theorem GoodF.congr {E : List (Nat × Nat)} {k : Nat} {g g' : Regs} {v : Nat} (h : GoodF E k g v) (e : ∀ j, j < v → g' j = g j) : GoodF E k g' v :=
  ⟨fun j hj => by rw [e j hj]; exact h.lt j hj, fun m hm h1 h2 => by rw [e _ h1, e _ h2]; exact h.no m hm h1 h2⟩
theorem GoodF.next {E : List (Nat × Nat)} {k : Nat} {g : Regs} {v c : Nat} (h : GoodF E k g v) (hc : c < k) (hl : ∀ e ∈ E, e.1 ≠ e.2) (hf : fitF E g v c = true) : GoodF E k (upd g v c) (v + 1) := by
  unfold fitF at hf
  rw [Bool.not_eq_true', List.any_eq_false] at hf
  refine ⟨fun j hj => ?_, fun e he h1 h2 => ?_⟩
  · by_cases e : j = v
    · subst e; rw [upd_at]; exact hc
    · rw [upd_ne e]; exact h.lt j (by omega)
  · have ht := hf e he
    unfold touchF at ht
    simp only [Bool.or_eq_true, Bool.and_eq_true, decide_eq_true_eq, not_or, not_and] at ht
    have hne := hl e he
    by_cases e1 : e.1 = v
    · have e2 : e.2 ≠ v := fun h => hne (by omega)
      rw [e1, upd_at, upd_ne e2]
      exact fun h => ht.1 e1 (by omega) h.symm
    · rw [upd_ne e1]
      by_cases e2 : e.2 = v
      · rw [e2, upd_at]
        exact fun h => ht.2 e2 (by omega) h
      · rw [upd_ne e2]
        exact h.no e he (by omega) (by omega)
def topF (g : Regs) : Nat → Nat
  | 0 => 0
  | v + 1 => max (topF g v) (g v + 1)
theorem topF_congr {g g' : Regs} : ∀ v, (∀ j, j < v → g j = g' j) → topF g v = topF g' v
  | 0, _ => rfl
  | v + 1, h => by
    unfold topF
    rw [topF_congr v fun j hj => h j (by omega), h v (by omega)]
theorem topF_upd (g : Regs) (v c : Nat) : topF (upd g v c) (v + 1) = max (topF g v) (c + 1) := by
  show max (topF (upd g v c) v) (upd g v c v + 1) = _
  rw [upd_at, topF_congr v fun j hj => upd_ne (by omega)]
/-- A block of n numbers. -/
def NRow (w : World) (q n : Nat) (g : Regs) : Prop := w.heap[q]? = some (.cells (intArr n g) 3 (0, 0))
theorem NRow.cell {w : World} {q n : Nat} {g : Regs} (h : NRow w q n g) {k : Nat} (hk : k < n) : w.cell? ⟨q, k, none⟩ = some (.int .i64 (g k : Nat)) := by
  rw [cell_of_row w q k _ _ _ h]; exact intArr_get n g k hk
theorem NRow.free {w : World} {q n : Nat} {g : Regs} (h : NRow w q n g) (k : Nat) : w.frozen? ⟨q, k, none⟩ = false := frozen_of_row w q k _ _ h
theorem NRow.lt {w : World} {q n : Nat} {g : Regs} (h : NRow w q n g) : q < w.heap.size := lt_of_block h
theorem NRow.set {w : World} {q n : Nat} {g : Regs} (h : NRow w q n g) (v x : Nat) : NRow (w.setCell ⟨q, v, none⟩ (.int .i64 (x : Nat))) q n (upd g v x) := by
  unfold NRow
  rw [heap_setCell_same w q v _ _ _ h, intArr_set n g v x]
  rfl
theorem NRow.below {w w' : World} {q n : Nat} {g : Regs} (h : NRow w q n g) (hb : Below w.heap.size w w') : NRow w' q n g := by
  unfold NRow; rw [hb.block q h.lt]; exact h
theorem NRow.congr {w : World} {q n : Nat} {f g : Regs} (h : NRow w q n f) (e : ∀ j, j < n → f j = g j) : NRow w q n g := by
  have : intArr n f = intArr n g := by
    unfold intArr
    apply Array.ext
    · simp
    · intro i h1 h2
      have hi : i < n := by simpa using h1
      simp [e i hi]
  unfold NRow at *
  rw [← this]; exact h

end Go.Proofs.Ytgpacajlfclobaa
