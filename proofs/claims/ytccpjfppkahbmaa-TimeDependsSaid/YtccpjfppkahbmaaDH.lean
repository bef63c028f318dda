/- Plainly: the pairs of the table, sorted, are the specification's pairs. -/
import Derived.Test.YtccpjfppkahbmaaDE
import Derived.Test.YtccpjfppkahbmaaDG
namespace Go.Proofs.Ytccpjfppkahbmaa
open Go.RowKit PK Go.Sort

theorem sorted_ext {R : Int × Int → Int × Int → Prop} (hirr : ∀ x, ¬ R x x) (htr : ∀ x y z, R x y → R y z → R x z) : ∀ {a b : StrL}, a.Pairwise R → b.Pairwise R → (∀ x, x ∈ a ↔ x ∈ b) → a = b
  | [], [], _, _, _ => rfl
  | [], y :: b, _, _, h => absurd ((h y).2 (by simp)) (by simp)
  | x :: a, [], _, _, h => absurd ((h x).1 (by simp)) (by simp)
  | x :: a, y :: b, ha, hb, h => by
    obtain ⟨hx, ha2⟩ := List.pairwise_cons.1 ha
    obtain ⟨hy, hb2⟩ := List.pairwise_cons.1 hb
    have e : x = y := by
      have h1 := (h x).1 (by simp)
      have h2 := (h y).2 (by simp)
      rw [List.mem_cons] at h1 h2
      rcases h1 with h1 | h1
      · exact h1
      · rcases h2 with h2 | h2
        · exact h2.symm
        · exact absurd (htr _ _ _ (hy _ h1) (hx _ h2)) (hirr _)
    subst e
    have e2 : a = b := sorted_ext hirr htr ha2 hb2 fun z => by
      have hz := h z
      rw [List.mem_cons, List.mem_cons] at hz
      constructor
      · intro hza
        rcases hz.1 (.inr hza) with rfl | h1
        · exact absurd (hx _ hza) (hirr _)
        · exact h1
      · intro hzb
        rcases hz.2 (.inr hzb) with rfl | h1
        · exact absurd (hy _ hzb) (hirr _)
        · exact h1
    rw [e2]
def lt2 (x y : Int × Int) : Prop := x.1 < y.1 ∨ (x.1 = y.1 ∧ x.2 < y.2)
/-- The pairs as the table gives them. -/
def tabP (k : Nat) (m : List Int) : StrL := m.map fun i => (i, (k : Int))
def depT (l : List Cd) (k : Nat) : StrL := (List.range k).flatMap fun k => tabP k (tabN l k k)
theorem depT_succ (l : List Cd) (k : Nat) : depT l (k + 1) = depT l k ++ tabP k (tabN l k k) := by
  unfold depT
  rw [List.range_succ, List.flatMap_append]
  simp
theorem depT_len (l : List Cd) : ∀ k, (depT l k).length ≤ k * k
  | 0 => by simp [depT]
  | k + 1 => by
    rw [depT_succ, List.length_append, Nat.succ_mul, Nat.mul_succ]
    have := depT_len l k
    have := tabN_len l k k
    unfold tabP
    rw [List.length_map]
    omega
theorem mem_depT {l : List Cd} {n : Nat} {x : Int × Int} : x ∈ depT l n ↔ ∃ i k : Nat, i < k ∧ k < n ∧ depB (atC l i) (atC l k) = true ∧ x = ((i : Int), (k : Int)) := by
  unfold depT tabP tabN
  simp only [List.mem_flatMap, List.mem_range, List.mem_map, List.mem_filter]
  constructor
  · rintro ⟨k, hk, a, ⟨i, ⟨hi, hd⟩, rfl⟩, rfl⟩
    exact ⟨i, k, hi, hk, hd, rfl⟩
  · rintro ⟨i, k, hi, hk, hd, rfl⟩
    exact ⟨k, hk, _, ⟨i, ⟨hi, hd⟩, rfl⟩, rfl⟩
theorem mem_depN {l : List Cd} {x : Int × Int} : x ∈ depN l l.length ↔ ∃ i k : Nat, i < k ∧ k < l.length ∧ depB (atC l i) (atC l k) = true ∧ x = ((i : Int), (k : Int)) := by
  unfold depN pairN
  simp only [List.mem_flatMap, List.mem_range, List.mem_map, List.mem_filter, Bool.and_eq_true, decide_eq_true_eq]
  constructor
  · rintro ⟨i, hi, k, ⟨hk, hik, hd⟩, rfl⟩
    exact ⟨i, k, hik, hk, hd, rfl⟩
  · rintro ⟨i, k, hi, hk, hd, rfl⟩
    exact ⟨i, by omega, k, ⟨hk, hi, hd⟩, rfl⟩
theorem depT_nodup (l : List Cd) (n : Nat) : (depT l n).Pairwise (fun x y => x ≠ y) := by
  unfold depT
  rw [List.pairwise_flatMap]
  constructor
  · intro k _
    unfold tabP tabN
    rw [List.pairwise_map, List.pairwise_map]
    refine (List.pairwise_lt_range.filter _).imp ?_
    intro a b h e
    simp only [Prod.mk.injEq, and_true] at e
    omega
  · refine List.pairwise_lt_range.imp ?_
    intro a b h x hx y hy e
    unfold tabP at hx hy
    obtain ⟨i, _, rfl⟩ := List.mem_map.1 hx
    obtain ⟨j, _, rfl⟩ := List.mem_map.1 hy
    simp only [Prod.mk.injEq] at e
    omega
theorem depN_sorted (l : List Cd) (n : Nat) : (depN l n).Pairwise lt2 := by
  unfold depN
  rw [List.pairwise_flatMap]
  constructor
  · intro k _
    unfold pairN
    rw [List.pairwise_map]
    refine (List.pairwise_lt_range.filter _).imp ?_
    intro a b h
    exact .inr ⟨rfl, by simpa using h⟩
  · refine List.pairwise_lt_range.imp ?_
    intro a b h x hx y hy
    unfold pairN at hx hy
    obtain ⟨i, _, rfl⟩ := List.mem_map.1 hx
    obtain ⟨j, _, rfl⟩ := List.mem_map.1 hy
    exact .inl (by simpa using h)
theorem sort_dep (l : List Cd) : sort2 (depT l l.length) = depN l l.length := by
  have hp : (sort2 (depT l l.length)).Perm (depT l l.length) := List.mergeSort_perm _ _
  have hs : (sort2 (depT l l.length)).Pairwise (fun x y => (!(ltOf cmp2) y x) = true) := List.pairwise_mergeSort (fun a b c h1 h2 => by
    rw [Bool.not_eq_true', lt2_not] at *; omega) (fun a b => by
    rw [Bool.or_eq_true, Bool.not_eq_true', Bool.not_eq_true', lt2_not, lt2_not]; omega) _
  have hn : (sort2 (depT l l.length)).Pairwise (fun x y => x ≠ y) := (depT_nodup l l.length).perm hp.symm (fun h e => h e.symm)
  refine sorted_ext (R := lt2) (fun x => by unfold lt2; omega) (fun x y z => by unfold lt2; omega) ?_ (depN_sorted l l.length) fun x => ?_
  · refine (hs.and hn).imp ?_
    rintro x y ⟨h1, h2⟩
    rw [Bool.not_eq_true', lt2_not] at h1
    unfold lt2
    have : x.1 ≠ y.1 ∨ x.2 ≠ y.2 := by
      by_cases h : x.1 = y.1
      · exact .inr fun e => h2 (Prod.ext h e)
      · exact .inl h
    omega
  · rw [hp.mem_iff, mem_depT, mem_depN]
end Go.Proofs.Ytccpjfppkahbmaa
