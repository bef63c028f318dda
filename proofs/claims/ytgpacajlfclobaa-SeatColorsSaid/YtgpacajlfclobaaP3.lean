/- Plain facts: how the document counts the fewest moves. -/
import Derived.Test.YtgpacajlfclobaaP2
namespace Go.Proofs.Ytgpacajlfclobaa

/-- The ring through a register, gone round for some steps. -/
def ringB (F : PF) (t : Nat) : Nat → Nat → Bool → Nat → Bool
  | 0, _, _, _ => false
  | n + 1, r, al, le => match F r with
    | none => false
    | some x => if x = t then (al && decide (rdN F r = 1)) && decide (min le r = t) else ringB F t n x (al && decide (rdN F r = 1)) (min le r)
def GoodR (F : PF) (t i : Nat) : Prop := ∃ x, itF F t i = some x ∧ rdN F x = 1 ∧ t ≤ x
theorem itF_none {F : PF} {t j : Nat} (h : itF F t j = none) : ∀ d, itF F t (j + d) = none
  | 0 => h
  | d + 1 => by
    show (itF F t (j + d)).bind F = none
    rw [itF_none h d]; rfl
theorem ringB_iff {F : PF} {t : Nat} : ∀ n j r al le, itF F t j = some r → le ≤ t →
    (ringB F t n r al le = true ↔ al = true ∧ le = t ∧ ∃ k, j < k ∧ k ≤ j + n ∧ itF F t k = some t ∧ (∀ i, j < i → i < k → itF F t i ≠ some t) ∧ ∀ i, j ≤ i → i < k → GoodR F t i)
  | 0, j, r, al, le, _, _ => by
    unfold ringB
    constructor
    · intro h; cases h
    · rintro ⟨_, _, k, h1, h2, _⟩
      omega
  | n + 1, j, r, al, le, hj, hle => by
    have hnext : itF F t (j + 1) = F r := by show (itF F t j).bind F = _; rw [hj]; rfl
    have hgood : GoodR F t j ↔ rdN F r = 1 ∧ t ≤ r := by
      unfold GoodR
      rw [hj]
      constructor
      · rintro ⟨x, h1, h2⟩
        obtain rfl : r = x := by simpa using h1
        exact h2
      · intro h
        exact ⟨r, rfl, h⟩
    unfold ringB
    cases hF : F r with
    | none =>
      rw [hF] at hnext
      constructor
      · intro h; cases h
      · rintro ⟨_, _, k, h1, h2, h3, _⟩
        have := itF_none hnext (k - (j + 1))
        rw [show j + 1 + (k - (j + 1)) = k by omega, h3] at this
        cases this
    | some x =>
      rw [hF] at hnext
      show (if x = t then (al && decide (rdN F r = 1)) && decide (min le r = t) else ringB F t n x (al && decide (rdN F r = 1)) (min le r)) = true ↔ _
      by_cases hx : x = t
      · subst hx
        rw [if_pos rfl, Bool.and_eq_true, Bool.and_eq_true, decide_eq_true_iff, decide_eq_true_iff]
        constructor
        · rintro ⟨⟨h1, h2⟩, h3⟩
          refine ⟨h1, by omega, j + 1, by omega, by omega, hnext, fun i h4 h5 => by omega, fun i h4 h5 => ?_⟩
          obtain rfl : i = j := by omega
          exact hgood.2 ⟨h2, by omega⟩
        · rintro ⟨h1, h2, k, h3, h4, h5, h6, h7⟩
          have hg := hgood.1 (h7 j (Nat.le_refl _) h3)
          exact ⟨⟨h1, hg.1⟩, by omega⟩
      · rw [if_neg hx, ringB_iff n (j + 1) x _ _ hnext (by omega), Bool.and_eq_true, decide_eq_true_iff]
        constructor
        · rintro ⟨⟨h1, h2⟩, h3, k, h4, h5, h6, h7, h8⟩
          refine ⟨h1, by omega, k, by omega, by omega, h6, fun i h9 h10 => ?_, fun i h9 h10 => ?_⟩
          · by_cases c : i = j + 1
            · subst c; rw [hnext]; simpa using hx
            · exact h7 i (by omega) h10
          · by_cases c : i = j
            · subst c; exact hgood.2 ⟨h2, by omega⟩
            · exact h8 i (by omega) h10
        · rintro ⟨h1, h2, k, h3, h4, h5, h6, h7⟩
          have hg := hgood.1 (h7 j (Nat.le_refl _) h3)
          have hk : k ≠ j + 1 := fun c => by
            subst c
            rw [hnext] at h5
            exact hx (by simpa using h5)
          exact ⟨⟨h1, hg.1⟩, by omega, k, by omega, by omega, h5, fun i h8 h9 => h6 i (by omega) h9, fun i h8 h9 => h7 i (by omega) h9⟩
theorem least_nat {p : Nat → Prop} : ∀ n, p n → ∃ k, p k ∧ ∀ i, i < k → ¬ p i := by
  intro n
  induction n using Nat.strongRecOn with
  | _ n ih =>
    intro h
    by_cases c : ∃ i, i < n ∧ p i
    · obtain ⟨i, h1, h2⟩ := c
      exact ih i h1 h2
    · exact ⟨n, h, fun i hi hp => c ⟨i, hi, hp⟩⟩
theorem ringB_least {F : PF} (hF : FOk F) {t n : Nat} (hn : (keysL F).length ≤ n) : ringB F t n t true t = true ↔ LeastR F t := by
  rw [ringB_iff n 0 t true t rfl (Nat.le_refl _)]
  constructor
  · rintro ⟨_, _, k, h1, h2, h3, _, h5⟩
    exact ⟨k, h1, h3, fun j hj => h5 j (Nat.zero_le _) hj⟩
  · rintro ⟨k0, hk0, hr0, hs0⟩
    obtain ⟨k, ⟨hk, hr⟩, hmin⟩ := least_nat (p := fun k => 0 < k ∧ itF F t k = some t) k0 ⟨hk0, hr0⟩
    have hkk : k ≤ k0 := by
      apply Nat.le_of_not_lt
      intro c
      exact hmin k0 c ⟨hk0, hr0⟩
    have hall : ∀ i, i < k → GoodR F t i := fun i hi => hs0 i (by omega)
    refine ⟨rfl, rfl, k, hk, ?_, hr, fun i h1 h2 e => hmin i h2 ⟨h1, e⟩, fun i _ hi => hall i hi⟩
    have hnd : ((List.range k).map fun j => (itF F t j).getD 0).Nodup := by
      rw [List.nodup_iff_pairwise_ne, List.pairwise_map]
      have hp := List.pairwise_lt_range (n := k)
      refine hp.imp_of_mem ?_
      intro a b ha hb hab e
      rw [List.mem_range] at ha hb
      obtain ⟨x, h1, _⟩ := hall a ha
      obtain ⟨y, h2, _⟩ := hall b hb
      rw [h1, h2] at e
      have e' : x = y := e
      subst e'
      have e1 := itF_add F t b (k - b)
      have e2 := itF_add F t a (k - b)
      rw [show b + (k - b) = k by omega, hr, h2] at e1
      rw [h1] at e2
      exact hmin (a + (k - b)) (by omega) ⟨by omega, e2.trans e1.symm⟩
    have := sub_len _ (keysL F) hnd fun x hx => by
      obtain ⟨j, hj, rfl⟩ := List.mem_map.1 hx
      rw [List.mem_range] at hj
      obtain ⟨y, h1, h2, _⟩ := hall j hj
      rw [h1]
      have hy : ∃ z, F y = some z := by
        cases hc : F y with
        | some z => exact ⟨z, rfl⟩
        | none =>
          exfalso
          have e : itF F t (j + 1) = none := by show (itF F t j).bind F = none; rw [h1]; exact hc
          have := itF_none e (k - (j + 1))
          rw [show j + 1 + (k - (j + 1)) = k by omega, hr] at this
          cases this
      obtain ⟨z, hz⟩ := hy
      exact hF.key hz
    rw [List.length_map, List.length_range] at this
    omega
/-- What one move adds to the count. -/
def oneN (l : List (Nat × Nat)) (m : Nat × Nat) : Nat := if m.1 = m.2 then 0 else if ringB (fromF l) m.1 l.length m.1 true m.1 then 2 else 1
def fewUpto (l : List (Nat × Nat)) (k : Nat) : Nat := ((l.take k).map (oneN l)).sum
theorem fewUpto_zero (l : List (Nat × Nat)) : fewUpto l 0 = 0 := rfl
theorem fewUpto_next {l : List (Nat × Nat)} {k : Nat} (h : k < l.length) : fewUpto l (k + 1) = fewUpto l k + oneN l (l.getD k (0, 0)) := by
  unfold fewUpto
  rw [List.take_succ_eq_append_getElem h, List.map_append, List.sum_append]
  simp [List.getD_eq_getElem?_getD, List.getElem?_eq_getElem h]
theorem sum_two (l m : List (Nat × Nat)) : (m.map (oneN l)).sum = (m.filter fun x => decide (x.1 ≠ x.2)).length + (m.filter fun x => decide (x.1 ≠ x.2) && ringB (fromF l) x.1 l.length x.1 true x.1).length := by
  induction m with
  | nil => rfl
  | cons x m ih =>
    rw [List.map_cons, List.sum_cons, ih, List.filter_cons, List.filter_cons]
    unfold oneN
    by_cases c : x.1 = x.2
    · rw [if_pos c]
      have : decide (x.1 ≠ x.2) = false := by simpa using c
      rw [this]
      simp
    · rw [if_neg c]
      have : decide (x.1 ≠ x.2) = true := by simpa using c
      rw [this]
      cases ringB (fromF l) x.1 l.length x.1 true x.1
      · simp; omega
      · simp; omega
theorem few_row {l : List (Nat × Nat)} (h : MOk l) (sp : Nat) : fewUpto l l.length = (rowL l sp).length := by
  obtain ⟨B, hn, hB, hlen⟩ := row_len h sp
  unfold fewUpto
  rw [List.take_length, sum_two, hlen]
  have hk : (keysL (fromF l)).length ≤ l.length := by
    have := sub_len (keysL (fromF l)) (l.map (·.1)) (keysL_nodup _) fun x hx => by
      obtain ⟨y, hy⟩ := Option.isSome_iff_exists.1 (keysL_mem.1 hx).2
      exact List.mem_map.2 ⟨_, ((fromF_iff h).1 hy).1, rfl⟩
    simpa using this
  congr 1
  · rw [show (l.filter fun x => decide (x.1 ≠ x.2)).length = ((l.filter fun x => decide (x.1 ≠ x.2)).map (·.1)).length by simp]
    refine nodup_len (List.Nodup.sublist (List.Sublist.map _ List.filter_sublist) h.one) (keysL_nodup _) fun j => ?_
    rw [List.mem_map, keysL_mem]
    constructor
    · rintro ⟨m, hm, rfl⟩
      obtain ⟨h2, h3⟩ := List.mem_filter.1 hm
      rw [decide_eq_true_iff] at h3
      have hf : fromF l m.1 = some m.2 := (fromF_iff h).2 ⟨h2, fun e => h3 e.symm⟩
      exact ⟨by have := (h.reg _ h2).1; omega, by rw [hf]; rfl⟩
    · rintro ⟨_, h2⟩
      obtain ⟨y, hy⟩ := Option.isSome_iff_exists.1 h2
      obtain ⟨h3, h4⟩ := (fromF_iff h).1 hy
      exact ⟨(j, y), List.mem_filter.2 ⟨h3, by rw [decide_eq_true_iff]; exact fun e => h4 e.symm⟩, rfl⟩
  · rw [show (l.filter fun x => decide (x.1 ≠ x.2) && ringB (fromF l) x.1 l.length x.1 true x.1).length = ((l.filter fun x => decide (x.1 ≠ x.2) && ringB (fromF l) x.1 l.length x.1 true x.1).map (·.1)).length by simp]
    refine nodup_len (List.Nodup.sublist (List.Sublist.map _ List.filter_sublist) h.one) hn fun j => ?_
    rw [List.mem_map, hB]
    constructor
    · rintro ⟨m, hm, rfl⟩
      obtain ⟨h2, h3⟩ := List.mem_filter.1 hm
      rw [Bool.and_eq_true] at h3
      exact (ringB_least (fromF_ok h) hk).1 h3.2
    · intro hL
      have hf : ∃ y, fromF l j = some y := by
        obtain ⟨k, h1, h2, h3⟩ := hL
        cases hc : fromF l j with
        | some y => exact ⟨y, rfl⟩
        | none =>
          exfalso
          have e : itF (fromF l) j 1 = none := hc
          have := itF_none e (k - 1)
          rw [show 1 + (k - 1) = k by omega, h2] at this
          cases this
      obtain ⟨y, hy⟩ := hf
      obtain ⟨h3, h4⟩ := (fromF_iff h).1 hy
      refine ⟨(j, y), List.mem_filter.2 ⟨h3, ?_⟩, rfl⟩
      rw [Bool.and_eq_true, decide_eq_true_iff]
      exact ⟨fun e => h4 e.symm, (ringB_least (fromF_ok h) hk).2 hL⟩
end Go.Proofs.Ytgpacajlfclobaa
