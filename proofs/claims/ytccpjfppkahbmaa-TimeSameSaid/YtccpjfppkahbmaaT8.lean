/- Plain facts between the two sides' readings. -/
import Derived.Test.YtccpjfppkahbmaaT7
namespace Go.Proofs.Ytccpjfppkahbmaa
open Go.RowKit PK

theorem foldT_two (f : Int → Option Int) (a b t : Int) : foldT f [a, b] t = foldT f [b, a] t := by
  unfold foldT
  simp only [List.foldl_cons, List.foldl_nil]; omega
theorem foldT_dup (f : Int → Option Int) (a t : Int) : foldT f [a, a] t = foldT f [a] t := by
  unfold foldT
  simp only [List.foldl_cons, List.foldl_nil]; omega
theorem foldT_pair (f : Int → Option Int) (a b t : Int) : foldT f [a, b] t = foldT f (if (!decide (b = a)) = true then (if b < a then [b, a] else [a, b]) else [a]) t := by
  by_cases h : b = a
  · subst h; simp [foldT_dup]
  · simp only [h, decide_false, Bool.not_false, if_true]
    split
    · exact foldT_two _ _ _ _
    · rfl
theorem okC_a0 {x : Cd} (h : okC x = true) (hp : x.op < 18) : 0 ≤ x.a := by
  obtain ⟨h0, h1, h2⟩ := okC_parts h
  unfold isCodeB wi at h2
  simp only [Bool.and_eq_true] at h2
  have h3 := h2.2.2.1
  have hm : lowA x.op = 0 := by
    unfold lowA fM
    rw [decide_eq_false (by omega)]; rfl
  rw [hm] at h3
  split at h3 <;> simp at h3 <;> omega
theorem foldT_rd {x : Cd} (h : okC x = true) (f : Int → Option Int) (t : Int) : foldT f (rdR x) t = foldT f (usesL x) t := by
  obtain ⟨h0, h1, _⟩ := okC_parts h
  have ha := okC_a0 h
  obtain ⟨p, d, a, b, i, to⟩ := x
  simp only at h0 h1 ha
  unfold rdR usesL
  simp only
  by_cases c1 : p = 1
  · subst c1
    have := ha (by decide)
    have e1 : fA 1 = true := by decide
    have e2 : fB 1 = false := by decide
    simp [e1, e2, this]
  by_cases c2 : 2 ≤ p ∧ p ≤ 17
  · have := ha (by omega)
    have e1 : fA p = true := by unfold fA; simp; omega
    have e2 : fB p = true := by unfold fB; simp; omega
    rw [if_neg c1, if_pos c2, e1, e2]
    simp only [Bool.true_and, decide_eq_true_eq, if_pos this]
    exact foldT_pair f a b t
  by_cases c3 : 18 ≤ p ∧ p ≤ 20
  · have e1 : fA p = true := by unfold fA; simp; omega
    have e2 : fB p = false := by unfold fB; simp; omega
    have e3 : stB p = false := by unfold stB; simp; omega
    rw [if_neg c1, if_neg c2, e1, e2, e3]
    by_cases h4 : 0 ≤ a
    · rw [if_pos ⟨c3.1, c3.2, h4⟩]; simp [h4]
    · rw [if_neg (fun c => h4 c.2.2)]; simp [h4]
  by_cases c4 : 21 ≤ p ∧ p ≤ 23
  · have e1 : fA p = true := by unfold fA; simp; omega
    have e2 : fB p = true := by unfold fB; simp; omega
    have e3 : stB p = true := by unfold stB; simp; omega
    rw [if_neg c1, if_neg c2, if_neg (fun c => c3 ⟨c.1, c.2.1⟩), e1, e2, e3]
    by_cases h4 : 0 ≤ a
    · rw [if_pos ⟨rfl, h4⟩]
      simp only [Bool.true_and, decide_eq_true_eq, if_pos h4]
      exact foldT_pair f a b t
    · rw [if_neg (fun c => h4 c.2)]; simp [h4]
  · have e0 : p = 0 := by omega
    subst e0
    rfl
theorem wrR_iff {x : Cd} {r : Int} (h : 0 ≤ r) : wrR x = r ↔ fD x.op = true ∧ x.d = r := by
  unfold wrR fD
  by_cases c : 0 ≤ x.op ∧ x.op ≤ 20
  · rw [if_pos c]; simp [c]
  · rw [if_neg c]
    simp only [decide_eq_true_eq]
    constructor
    · intro e; omega
    · intro e; exact absurd e.1 c
theorem lastW_hit {l : List Cd} {r : Int} {j : Nat} (h : 0 ≤ r) (hw : wrR (atC l j) = r) : lastW l r (j + 1) = some j := if_pos ((wrR_iff h).1 hw)
theorem lastW_miss {l : List Cd} {r : Int} {j : Nat} (h : 0 ≤ r) (hw : ¬ wrR (atC l j) = r) : lastW l r (j + 1) = lastW l r j := if_neg fun c => hw ((wrR_iff h).2 c)
theorem rdR_reg {x : Cd} (h : okC x = true) : ∀ r ∈ rdR x, 0 ≤ r ∧ r < 200 := by
  intro r hr
  obtain ⟨h0, h1, _⟩ := okC_parts h
  have ha := okC_a h; have hb := okC_b h; have ha0 := okC_a0 h
  unfold rdR at hr
  repeat' split at hr
  all_goals first | (cases hr; done) | (simp only [List.mem_cons, List.not_mem_nil, or_false] at hr; omega)
end Go.Proofs.Ytccpjfppkahbmaa
