/- Merged tables: plain lists of places. -/
import Derived.Test.YtmhneonebjcieaaRM
import Derived.Test.YtmhneonebjcieaaSE
namespace Go.Proofs.Ytmhneonebjcieaa
open Go.Sort Go.Shelf

theorem thing_iff {p q : Pl} : thing p = thing q ↔ p.va = q.va ∧ p.ki = q.ki ∧ p.nn = q.nn := by
  unfold thing
  simp only [Prod.mk.injEq]
theorem hitM_iff {x p : Pl} : hitM x p = true ↔ thing p = thing x ∧ p.to = x.fr := by
  unfold hitM
  rw [thing_iff]
  simp only [Bool.and_eq_true, decide_eq_true_iff]
  constructor
  · rintro ⟨a, b, c, d⟩; exact ⟨⟨a, b, c⟩, d⟩
  · rintro ⟨⟨a, b, c⟩, d⟩; exact ⟨a, b, c, d⟩
/-- A place of a thing covers an address. -/
def covT (j : Int × Int × Int) (a : Int) (p : Pl) : Prop := thing p = j ∧ p.fr ≤ a ∧ a < p.to
structure MInv (l : List Pl) (i : Nat) (s : MSt) : Prop where
  ix1 : ∀ j k, s.ix j = some k → k < s.out.length ∧ thing (at' s.out k) = j
  ix2 : ∀ k, k < s.out.length → ∃ k', s.ix (thing (at' s.out k)) = some k' ∧ k ≤ k'
  good : ∀ k, k < s.out.length → Good (at' s.out k)
  ord : ∀ k k', k < k' → k' < s.out.length → (at' s.out k).va = (at' s.out k').va → (at' s.out k).to ≤ (at' s.out k').fr
  gap : ∀ k k', k < k' → k' < s.out.length → thing (at' s.out k) = thing (at' s.out k') → (at' s.out k).to ≠ (at' s.out k').fr
  ends : ∀ k, k < s.out.length → ∃ q, q < i ∧ thing (at' l q) = thing (at' s.out k) ∧ (at' l q).to = (at' s.out k).to
  cov : ∀ j a, (∃ k, k < s.out.length ∧ covT j a (at' s.out k)) ↔ ∃ q, q < i ∧ covT j a (at' l q)
  len : s.out.length ≤ i
theorem at_snoc_lt {l : List Pl} {x : Pl} {k : Nat} (h : k < l.length) : at' (l ++ [x]) k = at' l k := by
  unfold at'
  rw [List.getD_eq_getElem?_getD, List.getD_eq_getElem?_getD, List.getElem?_append_left h]
theorem at_snoc_eq {l : List Pl} {x : Pl} : at' (l ++ [x]) l.length = x := by
  unfold at'
  rw [List.getD_eq_getElem?_getD, List.getElem?_append_right (Nat.le_refl _)]
  simp
theorem at_set {l : List Pl} {x : Pl} {k j : Nat} (h : k < l.length) : at' (l.set k x) j = if j = k then x else at' l j := by
  unfold at'
  rw [List.getD_eq_getElem?_getD, List.getD_eq_getElem?_getD]
  by_cases e : j = k
  · rw [if_pos e, e]; simp [h]
  · rw [if_neg e, List.getElem?_set_ne (fun h => e h.symm)]
/-- What came before with the same variable ends ahead of a place. -/
theorem before_ends {l : List Pl} (ht : Table l) {i q : Nat} (hi : i < l.length) (hq : q < i) (hv : (at' l q).va = (at' l i).va) : (at' l q).to ≤ (at' l i).fr := by
  have h := ht.free i q hi hq
  have hs := ht.step (i - q) q (by omega)
  rw [show q + (i - q) = i by omega] at hs
  obtain ⟨f0, ft, t1, _⟩ := ht.good i hi
  unfold clash at h
  rw [decide_eq_true hv.symm, Bool.true_and, Bool.and_eq_false_iff, decide_eq_false_iff_not, decide_eq_false_iff_not] at h
  omega
theorem MInv.below {l : List Pl} {i : Nat} {s : MSt} (h : MInv l i s) (ht : Table l) (hi : i < l.length) {k : Nat} (hk : k < s.out.length) (hv : (at' s.out k).va = (at' l i).va) : (at' s.out k).to ≤ (at' l i).fr := by
  obtain ⟨q, hq, e1, e2⟩ := h.ends k hk
  rw [← e2]
  exact before_ends ht hi hq ((thing_iff.1 e1).1.trans hv)
/-- At most one place goes on into the next one: the last of its thing. -/
theorem MInv.hit {l : List Pl} {i : Nat} {s : MSt} (h : MInv l i s) (ht : Table l) (hi : i < l.length) {k : Nat} (hk : k < s.out.length) (hh : hitM (at' l i) (at' s.out k) = true) : joins s (at' l i) = some k := by
  obtain ⟨e1, e2⟩ := hitM_iff.1 hh
  obtain ⟨k', e3, hkk⟩ := h.ix2 k hk
  rw [e1] at e3
  obtain ⟨h1, h2⟩ := h.ix1 _ _ e3
  have hv := (thing_iff.1 h2).1
  have hv2 := (thing_iff.1 e1).1
  rcases Nat.lt_or_eq_of_le hkk with hlt | rfl
  · have := h.ord k k' hlt h1 (hv2.trans hv.symm)
    have := h.below ht hi h1 hv
    have := (h.good k' h1).ft
    omega
  · unfold joins
    rw [e3]
    exact if_pos e2
theorem joins_spec {s : MSt} {x : Pl} {k : Nat} (h : joins s x = some k) : s.ix (thing x) = some k ∧ (at' s.out k).to = x.fr := by
  unfold joins at h
  split at h
  · split at h
    · rename_i k' hk' he
      simp only [Option.some.injEq] at h
      subst h
      exact ⟨hk', he⟩
    · cases h
  · cases h
theorem setTo_at {l : List Pl} {k j : Nat} {t : Int} (h : k < l.length) : at' (setTo l k t) j = if j = k then ⟨(at' l k).fr, t, (at' l k).va, (at' l k).ki, (at' l k).nn⟩ else at' l j := at_set h
theorem setTo_thing {l : List Pl} {k j : Nat} {t : Int} (h : k < l.length) : thing (at' (setTo l k t) j) = thing (at' l j) := by
  rw [setTo_at h]
  split
  · rename_i e; rw [e]; rfl
  · rfl
theorem setTo_fr {l : List Pl} {k j : Nat} {t : Int} (h : k < l.length) : (at' (setTo l k t) j).fr = (at' l j).fr := by
  rw [setTo_at h]
  split
  · rename_i e; rw [e]
  · rfl
theorem setTo_va {l : List Pl} {k j : Nat} {t : Int} (h : k < l.length) : (at' (setTo l k t) j).va = (at' l j).va := (thing_iff.1 (setTo_thing h)).1
theorem setTo_to {l : List Pl} {k j : Nat} {t : Int} (h : k < l.length) : (at' (setTo l k t) j).to = if j = k then t else (at' l j).to := by
  rw [setTo_at h]
  split <;> rfl
theorem MInv.step {l : List Pl} {i : Nat} {s : MSt} (h : MInv l i s) (ht : Table l) (hi : i < l.length) : MInv l (i + 1) (mStep s (at' l i)) := by
  have hgx := ht.good i hi
  have hbl := fun k hk hv => h.below ht hi (k := k) hk hv
  have hhit := fun k hk hh => h.hit ht hi (k := k) hk hh
  generalize hx : at' l i = x at *
  cases hj : joins s x with
  | some k0 =>
    have hs : mStep s x = ⟨setTo s.out k0 x.to, s.ix⟩ := by unfold mStep; rw [hj]
    obtain ⟨e1, e2⟩ := joins_spec hj
    obtain ⟨hk0, e3⟩ := h.ix1 _ _ e1
    have hv0 := (thing_iff.1 e3).1
    have hl : (setTo s.out k0 x.to).length = s.out.length := setTo_len _ _ _
    rw [hs]
    have g0 := h.good k0 hk0
    refine ⟨fun j k e => ?_, fun k hk => ?_, fun k hk => ?_, fun k k' hkk hk' hv => ?_, fun k k' hkk hk' hv => ?_, fun k hk => ?_, fun j a => ?_, ?_⟩
    · obtain ⟨h1, h2⟩ := h.ix1 j k e
      exact ⟨by rw [hl]; exact h1, by rw [setTo_thing hk0]; exact h2⟩
    · rw [hl] at hk
      rw [setTo_thing hk0]
      exact h.ix2 k hk
    · rw [hl] at hk
      show Good (at' (setTo s.out k0 x.to) k)
      rw [setTo_at hk0]
      split
      · exact ⟨g0.f0, by have := g0.ft; have := hgx.ft; simp only; omega, hgx.t1, g0.v0, g0.v1, g0.k0, g0.k1, g0.n0, g0.n1⟩
      · exact h.good k hk
    · rw [hl] at hk'
      rw [setTo_va hk0, setTo_va hk0] at hv
      rw [setTo_to hk0, setTo_fr hk0]
      split
      · rename_i e
        subst e
        have h1 := h.ord k k' hkk hk' hv
        have h2 := hbl k' hk' (hv.symm.trans hv0)
        have := (h.good k' hk').ft
        omega
      · exact h.ord k k' hkk hk' hv
    · rw [hl] at hk'
      rw [setTo_thing hk0, setTo_thing hk0] at hv
      rw [setTo_to hk0, setTo_fr hk0]
      split
      · rename_i e
        subst e
        have hv' := (thing_iff.1 hv).1
        have h1 := h.ord k k' hkk hk' hv'
        have h2 := hbl k' hk' (hv'.symm.trans hv0)
        have := (h.good k' hk').ft
        omega
      · exact h.gap k k' hkk hk' hv
    · rw [hl] at hk
      rw [setTo_thing hk0, setTo_to hk0]
      split
      · rename_i e
        exact ⟨i, by omega, by rw [hx, e]; exact e3.symm, by rw [hx]⟩
      · obtain ⟨q, hq, h1, h2⟩ := h.ends k hk
        exact ⟨q, by omega, h1, h2⟩
    · have hc := h.cov j a
      unfold covT at hc ⊢
      constructor
      · rintro ⟨k, hk, h1, h2, h3⟩
        rw [hl] at hk
        rw [setTo_thing hk0] at h1
        rw [setTo_fr hk0] at h2
        rw [setTo_to hk0] at h3
        by_cases ek : k = k0
        · rw [if_pos ek] at h3
          subst ek
          by_cases ha : a < x.fr
          · obtain ⟨q, hq, hh⟩ := hc.1 ⟨k, hk, h1, h2, by rw [e2]; exact ha⟩
            exact ⟨q, by omega, hh⟩
          · exact ⟨i, by omega, by rw [hx, ← h1]; exact e3.symm, by rw [hx]; omega, by rw [hx]; exact h3⟩
        · rw [if_neg ek] at h3
          obtain ⟨q, hq, hh⟩ := hc.1 ⟨k, hk, h1, h2, h3⟩
          exact ⟨q, by omega, hh⟩
      · rintro ⟨q, hq, h1, h2, h3⟩
        by_cases eq : q = i
        · subst eq
          rw [hx] at h1 h2 h3
          refine ⟨k0, by rw [hl]; exact hk0, by rw [setTo_thing hk0, e3]; exact h1, ?_, ?_⟩
          · rw [setTo_fr hk0]; have := g0.ft; omega
          · rw [setTo_to hk0, if_pos rfl]; exact h3
        · obtain ⟨k, hk, g1, g2, g3⟩ := hc.2 ⟨q, by omega, h1, h2, h3⟩
          refine ⟨k, by rw [hl]; exact hk, by rw [setTo_thing hk0]; exact g1, by rw [setTo_fr hk0]; exact g2, ?_⟩
          rw [setTo_to hk0]
          split
          · rename_i e; subst e; have := hgx.ft; omega
          · exact g3
    · rw [hl]; have := h.len; omega
  | none =>
    have hs : mStep s x = ⟨s.out ++ [x], updL s.ix (thing x) s.out.length⟩ := by unfold mStep; rw [hj]
    have hnh : ∀ k, k < s.out.length → ¬ (thing (at' s.out k) = thing x ∧ (at' s.out k).to = x.fr) := fun k hk e => by
      have := hhit k hk (hitM_iff.2 e)
      rw [hj] at this; cases this
    rw [hs]
    have hl : (s.out ++ [x]).length = s.out.length + 1 := by simp
    have hat : ∀ k, k < s.out.length + 1 → (k < s.out.length ∧ at' (s.out ++ [x]) k = at' s.out k) ∨ (k = s.out.length ∧ at' (s.out ++ [x]) k = x) := fun k hk => by
      by_cases e : k < s.out.length
      · exact .inl ⟨e, at_snoc_lt e⟩
      · have e : k = s.out.length := by omega
        subst e
        exact .inr ⟨rfl, at_snoc_eq⟩
    refine ⟨fun j k e => ?_, fun k hk => ?_, fun k hk => ?_, fun k k' hkk hk' hv => ?_, fun k k' hkk hk' hv => ?_, fun k hk => ?_, fun j a => ?_, ?_⟩
    · have e : (if j = thing x then some s.out.length else s.ix j) = some k := e
      split at e
      · rename_i hjx
        simp only [Option.some.injEq] at e
        subst e
        exact ⟨by rw [hl]; omega, by rw [at_snoc_eq]; exact hjx.symm⟩
      · obtain ⟨h1, h2⟩ := h.ix1 j k e
        exact ⟨by rw [hl]; omega, by rw [at_snoc_lt h1]; exact h2⟩
    · rw [hl] at hk
      show ∃ k', (if thing (at' (s.out ++ [x]) k) = thing x then some s.out.length else s.ix (thing (at' (s.out ++ [x]) k))) = some k' ∧ k ≤ k'
      rcases hat k hk with ⟨h1, h2⟩ | ⟨h1, h2⟩
      · rw [h2]
        split
        · exact ⟨_, rfl, by omega⟩
        · exact h.ix2 k h1
      · rw [h2, if_pos rfl]
        exact ⟨_, rfl, by omega⟩
    · rw [hl] at hk
      show Good (at' (s.out ++ [x]) k)
      rcases hat k hk with ⟨h1, h2⟩ | ⟨h1, h2⟩
      · rw [h2]; exact h.good k h1
      · rw [h2]; exact hgx
    · rw [hl] at hk'
      have a1 := at_snoc_lt (x := x) (l := s.out) (k := k) (by omega)
      show (at' (s.out ++ [x]) k).to ≤ (at' (s.out ++ [x]) k').fr
      have hv : (at' (s.out ++ [x]) k).va = (at' (s.out ++ [x]) k').va := hv
      rw [a1] at hv ⊢
      rcases hat k' hk' with ⟨h1, h2⟩ | ⟨h1, h2⟩
      · rw [h2] at hv ⊢; exact h.ord k k' hkk h1 hv
      · rw [h2] at hv ⊢; exact hbl k (by omega) hv
    · rw [hl] at hk'
      have a1 := at_snoc_lt (x := x) (l := s.out) (k := k) (by omega)
      show (at' (s.out ++ [x]) k).to ≠ (at' (s.out ++ [x]) k').fr
      have hv : thing (at' (s.out ++ [x]) k) = thing (at' (s.out ++ [x]) k') := hv
      rw [a1] at hv ⊢
      rcases hat k' hk' with ⟨h1, h2⟩ | ⟨h1, h2⟩
      · rw [h2] at hv ⊢; exact h.gap k k' hkk h1 hv
      · rw [h2] at hv ⊢; exact fun e => hnh k (by omega) ⟨hv, e⟩
    · rw [hl] at hk
      show ∃ q, q < i + 1 ∧ thing (at' l q) = thing (at' (s.out ++ [x]) k) ∧ (at' l q).to = (at' (s.out ++ [x]) k).to
      rcases hat k hk with ⟨h1, h2⟩ | ⟨h1, h2⟩
      · rw [h2]
        obtain ⟨q, hq, g1, g2⟩ := h.ends k h1
        exact ⟨q, by omega, g1, g2⟩
      · rw [h2]
        exact ⟨i, by omega, by rw [hx], by rw [hx]⟩
    · have hc := h.cov j a
      show (∃ k, k < (s.out ++ [x]).length ∧ covT j a (at' (s.out ++ [x]) k)) ↔ _
      constructor
      · rintro ⟨k, hk, hh⟩
        rw [hl] at hk
        rcases hat k hk with ⟨h1, h2⟩ | ⟨h1, h2⟩
        · rw [h2] at hh
          obtain ⟨q, hq, hh⟩ := hc.1 ⟨k, h1, hh⟩
          exact ⟨q, by omega, hh⟩
        · rw [h2] at hh
          exact ⟨i, by omega, by rw [hx]; exact hh⟩
      · rintro ⟨q, hq, hh⟩
        by_cases eq : q = i
        · subst eq
          rw [hx] at hh
          exact ⟨s.out.length, by rw [hl]; omega, by rw [at_snoc_eq]; exact hh⟩
        · obtain ⟨k, hk, g1⟩ := hc.2 ⟨q, by omega, hh⟩
          exact ⟨k, by rw [hl]; omega, by rw [at_snoc_lt hk]; exact g1⟩
    · show (s.out ++ [x]).length ≤ i + 1
      rw [hl]; have := h.len; omega
theorem mInv_run {l : List Pl} (ht : Table l) : ∀ k, k ≤ l.length → MInv l k (mRun l k)
  | 0, _ => ⟨fun _ _ e => (by cases e), fun _ h => absurd h (Nat.not_lt_zero _), fun _ h => absurd h (Nat.not_lt_zero _), fun _ _ _ h => absurd h (Nat.not_lt_zero _), fun _ _ _ h => absurd h (Nat.not_lt_zero _), fun _ h => absurd h (Nat.not_lt_zero _),
      fun _ _ => ⟨fun ⟨_, h, _⟩ => absurd h (Nat.not_lt_zero _), fun ⟨_, h, _⟩ => absurd h (Nat.not_lt_zero _)⟩, Nat.le_refl _⟩
  | k + 1, h => by
    rw [mRun_next (by omega)]
    exact (mInv_run ht k (by omega)).step ht (by omega)
theorem any_hit {l : List Pl} {f : Pl → Bool} : l.any f = true ↔ ∃ k, k < l.length ∧ f (at' l k) = true := by rw [any_at, anyTo_true]
theorem map_at {l : List Pl} {f : Pl → Pl} {k : Nat} (h : k < l.length) : at' (l.map f) k = f (at' l k) := by
  unfold at'
  rw [List.getD_eq_getElem?_getD, List.getD_eq_getElem?_getD, List.getElem?_map, List.getElem?_eq_getElem h]; rfl
/-- What the document merges is what the program merges. -/
theorem rRun_mRun {l : List Pl} (ht : Table l) : ∀ k, k ≤ l.length → rRun l k = (mRun l k).out
  | 0, _ => rfl
  | k + 1, hk => by
    have ih := rRun_mRun ht k (by omega)
    have h := mInv_run ht k (by omega)
    rw [rRun_next (by omega), mRun_next (by omega), ih]
    generalize mRun l k = s at *
    have hhit := fun j hj hh => h.hit ht (show k < l.length by omega) (k := j) hj hh
    cases hj : joins s (at' l k) with
    | some k0 =>
      obtain ⟨e1, e2⟩ := joins_spec hj
      obtain ⟨hk0, e3⟩ := h.ix1 _ _ e1
      have hy : hitM (at' l k) (at' s.out k0) = true := hitM_iff.2 ⟨e3, e2⟩
      have hs : mStep s (at' l k) = ⟨setTo s.out k0 (at' l k).to, s.ix⟩ := by unfold mStep; rw [hj]
      rw [hs]
      unfold rStep
      rw [if_pos (any_hit.2 ⟨k0, hk0, hy⟩)]
      refine list_eq (by simp [setTo]) fun j hjl => ?_
      have hjl : j < s.out.length := by simpa using hjl
      rw [map_at hjl]
      show _ = at' (setTo s.out k0 (at' l k).to) j
      rw [setTo_at hk0]
      unfold updM
      by_cases e : j = k0
      · subst e
        rw [if_pos hy, if_pos rfl]
      · rw [if_neg e, if_neg]
        intro hh
        have := hhit j hjl hh
        rw [hj] at this
        simp only [Option.some.injEq] at this
        exact e this.symm
    | none =>
      have hs : mStep s (at' l k) = ⟨s.out ++ [at' l k], updL s.ix (thing (at' l k)) s.out.length⟩ := by unfold mStep; rw [hj]
      rw [hs]
      unfold rStep
      rw [if_neg]
      intro hh
      obtain ⟨j, hjl, hh⟩ := any_hit.1 hh
      have := hhit j hjl hh
      rw [hj] at this; cases this
end Go.Proofs.Ytmhneonebjcieaa
