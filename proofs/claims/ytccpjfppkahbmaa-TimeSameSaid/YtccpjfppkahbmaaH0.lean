/- Plainly: an order by the program's rule is one by the specification's. -/
import Derived.Test.YtccpjfppkahbmaaF3
import Derived.Test.YtccpjfppkahbmaaG0
namespace Go.Proofs.Ytccpjfppkahbmaa
open Go.RowKit PK

theorem getD_get {l : List Int} {k : Nat} (h : k < l.length) : l.getD k 0 = l[k] := by
  rw [List.getD_eq_getElem?_getD, List.getElem?_eq_getElem h]; rfl
theorem iota_lt (n : Nat) : (iota n).Pairwise (fun a b => a < b) := by
  unfold iota
  rw [List.pairwise_map]
  refine List.pairwise_lt_range.imp ?_
  intro a b h
  omega
theorem permO_nodup {n : Nat} {order : List Int} (h : permO n order) : order.Pairwise (fun a b => a ≠ b) := by
  have hp : (sortI order).Perm order := List.mergeSort_perm _ _
  have hs : (sortI order).Pairwise (fun a b => a ≠ b) := by
    rw [h.2]
    exact (iota_lt n).imp (fun h e => by omega)
  exact hs.perm hp (fun h e => h e.symm)
theorem nodup_at {l : List Int} (h : l.Pairwise (fun a b => a ≠ b)) {i j : Nat} (hi : i < l.length) (hj : j < l.length) (e : l.getD i 0 = l.getD j 0) : i = j := by
  rw [getD_get hi, getD_get hj] at e
  rw [List.pairwise_iff_getElem] at h
  rcases Nat.lt_trichotomy i j with c | c | c
  · exact absurd e (h i j hi hj c)
  · exact c
  · exact absurd e.symm (h j i hj hi c)
theorem strict_iota {s : List Int} {n : Nat} (hs : s.Pairwise (fun a b => a < b)) (hn : s.length = n) (hr : ∀ k, k < s.length → 0 ≤ s.getD k 0 ∧ s.getD k 0 < (n : Int)) : s = iota n := by
  have hlt : ∀ i j, i < j → j < s.length → s.getD i 0 < s.getD j 0 := fun i j hij hj => by
    rw [getD_get hj, getD_get (by omega)]
    exact List.pairwise_iff_getElem.1 hs i j (by omega) hj hij
  have hlow : ∀ k, k < s.length → (k : Int) ≤ s.getD k 0 := fun k => by
    induction k with
    | zero => exact fun h => (hr 0 h).1
    | succ k ih =>
      intro h
      have h1 := ih (by omega)
      have h2 := hlt k (k + 1) (Nat.lt_succ_self _) h
      omega
  have hup : ∀ d k, k + d + 1 = n → s.getD k 0 ≤ (n : Int) - 1 - (d : Int) := fun d => by
    induction d with
    | zero =>
      intro k h
      have := (hr k (by omega)).2
      omega
    | succ d ih =>
      intro k h
      have h1 := ih (k + 1) (by omega)
      have h2 := hlt k (k + 1) (Nat.lt_succ_self _) (by omega)
      omega
  refine ext_getD (by rw [iota_len, hn]) fun k hk => ?_
  have h1 := hlow k hk
  have h2 := hup (n - 1 - k) k (by omega)
  rw [iota_get (by omega)]
  omega
def onceAt (order : List Int) (n i : Nat) : Bool := !(decide (order.getD i 0 < 0) || (decide ((n : Int) ≤ order.getD i 0) || (order.take i).contains (order.getD i 0)))
/-- Each number below n once, as the specification looks. -/
def onceB (order : List Int) (n : Nat) : Bool := decide (order.length = n) && (List.range n).all fun i => onceAt order n i
theorem onceAt_iff {order : List Int} {n i : Nat} : onceAt order n i = true ↔ 0 ≤ order.getD i 0 ∧ order.getD i 0 < (n : Int) ∧ order.getD i 0 ∉ order.take i := by
  unfold onceAt
  rw [Bool.not_eq_true', Bool.or_eq_false_iff, Bool.or_eq_false_iff, decide_eq_false_iff_not, decide_eq_false_iff_not, ← Bool.not_eq_true, List.contains_iff_mem]
  constructor
  · rintro ⟨h1, h2, h3⟩; exact ⟨by omega, by omega, h3⟩
  · rintro ⟨h1, h2, h3⟩; exact ⟨by omega, by omega, h3⟩
theorem mem_take_of {l : List Int} {i j : Nat} (hj : j < i) (hi : i ≤ l.length) : l.getD j 0 ∈ l.take i := by
  rw [List.mem_iff_getElem]
  refine ⟨j, by rw [List.length_take]; omega, ?_⟩
  rw [getD_get (by omega), List.getElem_take]
theorem of_mem_take {l : List Int} {i : Nat} {x : Int} (h : x ∈ l.take i) : ∃ j, j < i ∧ j < l.length ∧ l.getD j 0 = x := by
  obtain ⟨j, hj, rfl⟩ := List.mem_iff_getElem.1 h
  rw [List.length_take] at hj
  exact ⟨j, by omega, by omega, by rw [getD_get (by omega), List.getElem_take]⟩
theorem once_iff {order : List Int} {n : Nat} : onceB order n = true ↔ permO n order := by
  unfold onceB
  rw [Bool.and_eq_true, decide_eq_true_eq, List.all_eq_true]
  constructor
  · rintro ⟨hn, hall⟩
    have hat : ∀ i, i < n → 0 ≤ order.getD i 0 ∧ order.getD i 0 < (n : Int) ∧ order.getD i 0 ∉ order.take i := fun i hi => onceAt_iff.1 (hall i (List.mem_range.2 hi))
    refine ⟨hn, ?_⟩
    have hnd : order.Pairwise (fun a b => a ≠ b) := by
      rw [List.pairwise_iff_getElem]
      intro i j hi hj hij e
      refine (hat j (by omega)).2.2 ?_
      have := mem_take_of (l := order) hij (by omega)
      rwa [getD_get hi, e, ← getD_get hj] at this
    have hp : (sortI order).Perm order := List.mergeSort_perm _ _
    have h1 : (sortI order).Pairwise (fun a b => decide (a ≤ b) = true) := List.pairwise_mergeSort (fun a b c h1 h2 => by rw [decide_eq_true_eq] at *; omega) (fun a b => by rw [Bool.or_eq_true, decide_eq_true_eq, decide_eq_true_eq]; omega) _
    have h2 : (sortI order).Pairwise (fun a b => a ≠ b) := hnd.perm hp.symm (fun h e => h e.symm)
    refine strict_iota ((h1.and h2).imp ?_) (by rw [sortI_len, hn]) fun k hk => ?_
    · rintro a b ⟨h3, h4⟩
      rw [decide_eq_true_eq] at h3
      omega
    · have hm : (sortI order).getD k 0 ∈ order := by
        rw [← hp.mem_iff, getD_get hk]
        exact List.getElem_mem hk
      obtain ⟨j, hj, e⟩ := List.mem_iff_getElem.1 hm
      have := hat j (by omega)
      rw [getD_get hj, e] at this
      exact ⟨this.1, this.2.1⟩
  · intro hp
    refine ⟨hp.1, fun i hi => onceAt_iff.2 ?_⟩
    have hi := List.mem_range.1 hi
    have hil : i < order.length := by rw [hp.1]; exact hi
    have hr := permO_get hp hil
    refine ⟨hr.1, hr.2, fun hm => ?_⟩
    obtain ⟨j, hj, hjl, e⟩ := of_mem_take hm
    have := nodup_at (permO_nodup hp) hjl hil e
    omega
theorem idx_at {n : Nat} {order : List Int} (h : permO n order) {p : Nat} (hp : p < n) : Lib.idxOf order (order.getD p 0) = (p : Int) := by
  have hl := h.1
  have := Lib.idxOf_hit order n p (order.getD p 0) hp (by omega) rfl (fun j hj e => by
    have := nodup_at (permO_nodup h) (by omega) (by omega) e
    omega)
  rwa [List.take_of_length_le (by omega)] at this
theorem idx_ex {n : Nat} {order : List Int} (h : permO n order) {k : Nat} (hk : k < n) : ∃ p, p < n ∧ order.getD p 0 = (k : Int) ∧ Lib.idxOf order (k : Int) = (p : Int) := by
  have hm : (k : Int) ∈ order := (permO_mem h).2 ⟨by omega, by omega⟩
  obtain ⟨p, hp, e⟩ := List.mem_iff_getElem.1 hm
  have hl := h.1
  have e2 : order.getD p 0 = (k : Int) := by rw [getD_get hp]; exact e
  exact ⟨p, by omega, e2, by rw [← e2]; exact idx_at h (by omega)⟩
def pairOK (l : List Cd) (order : List Int) (i j : Nat) : Bool := !(decide (order.getD j 0 < order.getD i 0) && depB (atC l (order.getD j 0).toNat) (atC l (order.getD i 0).toNat))
/-- The first m of those behind i. -/
def rowOK (l : List Cd) (order : List Int) (i m : Nat) : Bool := (List.range m).all fun j => !decide (i < j) || pairOK l order i j
def ordOK (l : List Cd) (order : List Int) (k : Nat) : Bool := (List.range k).all fun i => rowOK l order i order.length
theorem rowOK_succ (l : List Cd) (order : List Int) (i m : Nat) : rowOK l order i (m + 1) = (rowOK l order i m && (!decide (i < m) || pairOK l order i m)) := by
  unfold rowOK
  rw [List.range_succ, List.all_append]
  simp
theorem ordOK_succ (l : List Cd) (order : List Int) (k : Nat) : ordOK l order (k + 1) = (ordOK l order k && rowOK l order k order.length) := by
  unfold ordOK
  rw [List.range_succ, List.all_append]
  simp
theorem rowOK_start (l : List Cd) (order : List Int) (i : Nat) : rowOK l order i (i + 1) = true := by
  unfold rowOK
  rw [List.all_eq_true]
  intro j hj
  have := List.mem_range.1 hj
  rw [Bool.or_eq_true, Bool.not_eq_true', decide_eq_false_iff_not]
  exact .inl (by omega)
theorem ordOK_bad {l : List Cd} {order : List Int} {i j k : Nat} (hi : i < k) (hj : j < order.length) (hij : i < j) (h : pairOK l order i j = false) : ordOK l order k = false := by
  unfold ordOK
  rw [← Bool.not_eq_true, List.all_eq_true]
  intro h1
  have h2 := h1 i (List.mem_range.2 hi)
  unfold rowOK at h2
  rw [List.all_eq_true] at h2
  have h3 := h2 j (List.mem_range.2 hj)
  rw [h, decide_eq_true hij] at h3
  cases h3
theorem behind_ord {l : List Cd} {order : List Int} (h : permO l.length order) : behindN l order l.length = ordOK l order order.length := by
  have hl := h.1
  rw [Bool.eq_iff_iff]
  constructor
  · intro hb
    unfold behindN at hb
    rw [List.all_eq_true] at hb
    unfold ordOK
    rw [List.all_eq_true]
    intro i hi
    have hi := List.mem_range.1 hi
    unfold rowOK
    rw [List.all_eq_true]
    intro j hj
    have hj := List.mem_range.1 hj
    rw [Bool.or_eq_true, Bool.not_eq_true', decide_eq_false_iff_not]
    by_cases hij : i < j
    · refine .inr ?_
      unfold pairOK
      rw [Bool.not_eq_true', Bool.and_eq_false_iff, decide_eq_false_iff_not]
      by_cases hlt : order.getD j 0 < order.getD i 0
      · refine .inr ?_
        rw [← Bool.not_eq_true]
        intro hd
        have hri := permO_get h hi
        have hrj := permO_get h hj
        have h1 := hb (order.getD i 0).toNat (List.mem_range.2 (by omega))
        unfold behindRow at h1
        rw [List.all_eq_true] at h1
        have h2 := h1 (order.getD j 0) (by
          unfold tabN
          refine List.mem_map.2 ⟨(order.getD j 0).toNat, List.mem_filter.2 ⟨List.mem_range.2 (by omega), hd⟩, by omega⟩)
        rw [decide_eq_true_eq, show (((order.getD i 0).toNat : Nat) : Int) = order.getD i 0 by omega, idx_at h (by omega), idx_at h (by omega)] at h2
        omega
      · exact .inl hlt
    · exact .inl hij
  · intro ho
    unfold behindN
    rw [List.all_eq_true]
    intro k hk
    have hk := List.mem_range.1 hk
    unfold behindRow
    rw [List.all_eq_true]
    intro x hx
    unfold tabN at hx
    obtain ⟨i, hi, rfl⟩ := List.mem_map.1 hx
    obtain ⟨hi, hd⟩ := List.mem_filter.1 hi
    have hi := List.mem_range.1 hi
    obtain ⟨p, hp, ep, hpi⟩ := idx_ex h hk
    obtain ⟨q, hq, eq, hqi⟩ := idx_ex h (show i < l.length by omega)
    rw [decide_eq_true_eq, hpi, hqi]
    by_cases hpq : p < q
    · exfalso
      have hbad : pairOK l order p q = false := by
        unfold pairOK
        rw [ep, eq, Int.toNat_natCast, Int.toNat_natCast, hd, decide_eq_true (by omega)]
        rfl
      have := ordOK_bad (l := l) (order := order) (k := order.length) (by omega) (by omega) hpq hbad
      rw [ho] at this
      cases this
    · omega
end Go.Proofs.Ytccpjfppkahbmaa
