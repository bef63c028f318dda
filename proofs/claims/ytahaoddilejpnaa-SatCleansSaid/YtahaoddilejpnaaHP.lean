/- Clauses plainly: which are valid, which truth values are a model. No program in sight. -/
import Derived.Test.YtahaoddilejpnaaA0
namespace Go.Proofs.Ytahaoddilejpnaa

def litB (n l : Int) : Bool := decide (1 ≤ l ∧ l ≤ n ∨ l ≤ -1 ∧ -n ≤ l)
def validE (n : Int) (g : List (List Int)) : Int := if n < 0 ∨ 4000 < n ∨ 24000 < g.length then 3 else if g.any (fun k => k.any fun l => !litB n l) then 1 else 0
def litT (m : List Bool) (l : Int) : Bool := m.getD (l.natAbs - 1) false == decide (0 < l)
def holdsB (g : List (List Int)) (m : List Bool) : Bool := g.all fun k => k.any (litT m)
def longB (n : Int) (g : List (List Int)) : Bool := g.any (fun k => decide (30 < k.length)) || decide (120 < g.length) || decide (40 < n ∧ n ≤ 4000)
/-- What clauses are that no statement calls long. -/
structure Short (g : List (List Int)) : Prop where
  len : g.length ≤ 1000
  row : ∀ k, k < g.length → (g.getD k []).length ≤ 1000
theorem validE_ok {n : Int} {g : List (List Int)} (h : validE n g = 0) : 0 ≤ n ∧ n ≤ 4000 ∧ ∀ k, k < g.length → ∀ j, j < (g.getD k []).length → litB n ((g.getD k []).getD j 0) = true := by
  unfold validE at h
  split at h
  · omega
  · rename_i hc
    split at h
    · omega
    · rename_i hb
      refine ⟨by omega, by omega, fun k hk j hj => ?_⟩
      rw [Bool.not_eq_true, List.any_eq_false] at hb
      have h1 := hb (g.getD k []) (by rw [List.getD_eq_getElem?_getD, List.getElem?_eq_getElem hk]; exact List.getElem_mem hk)
      rw [Bool.not_eq_true, List.any_eq_false] at h1
      have h2 := h1 ((g.getD k []).getD j 0) (by rw [List.getD_eq_getElem?_getD (l := g.getD k []), List.getElem?_eq_getElem hj]; exact List.getElem_mem hj)
      simpa using h2
theorem lit_bds {n l : Int} (h : litB n l = true) : (1 ≤ l ∧ l ≤ n) ∨ (l ≤ -1 ∧ -n ≤ l) := by simpa [litB] using h
theorem getD_mem {α : Type} (g : List α) (d : α) (k : Nat) (hk : k < g.length) : g.getD k d ∈ g := by
  rw [List.getD_eq_getElem?_getD, List.getElem?_eq_getElem hk]; exact List.getElem_mem hk
theorem any_take_succ {α : Type} (l : List α) (d : α) (p : α → Bool) (k : Nat) (hk : k < l.length) : (l.take (k + 1)).any p = ((l.take k).any p || p (l.getD k d)) := by
  rw [List.take_add_one, List.any_append]
  simp [List.getD_eq_getElem?_getD, List.getElem?_eq_getElem hk]
theorem all_take_succ {α : Type} (l : List α) (d : α) (p : α → Bool) (k : Nat) (hk : k < l.length) : (l.take (k + 1)).all p = ((l.take k).all p && p (l.getD k d)) := by
  rw [List.take_add_one, List.all_append]
  simp [List.getD_eq_getElem?_getD, List.getElem?_eq_getElem hk]
theorem any_at {α : Type} {l : List α} (d : α) {p : α → Bool} {k : Nat} (hk : k < l.length) (h : p (l.getD k d) = true) : l.any p = true := List.any_eq_true.2 ⟨_, getD_mem l d k hk, h⟩
theorem all_at {α : Type} {l : List α} (d : α) {p : α → Bool} {k : Nat} (hk : k < l.length) (h : p (l.getD k d) = false) : l.all p = false := by
  cases hb : l.all p
  · rfl
  · rw [List.all_eq_true.1 hb _ (getD_mem l d k hk)] at h; cases h
theorem any_none {α : Type} {l : List α} (d : α) {p : α → Bool} {k : Nat} (hk : ¬ k < l.length) (h : ∀ j, j < k → p (l.getD j d) = false) : l.any p = false := by
  rw [List.any_eq_false]
  intro x hx
  obtain ⟨j, hj, rfl⟩ := List.mem_iff_getElem.1 hx
  have := h j (by omega)
  rw [List.getD_eq_getElem?_getD, List.getElem?_eq_getElem hj] at this
  rw [Bool.not_eq_true]; exact this
theorem all_every {α : Type} {l : List α} (d : α) {p : α → Bool} {k : Nat} (hk : ¬ k < l.length) (h : ∀ j, j < k → p (l.getD j d) = true) : l.all p = true := by
  rw [List.all_eq_true]
  intro x hx
  obtain ⟨j, hj, rfl⟩ := List.mem_iff_getElem.1 hx
  have := h j (by omega)
  rwa [List.getD_eq_getElem?_getD, List.getElem?_eq_getElem hj] at this
end Go.Proofs.Ytahaoddilejpnaa
