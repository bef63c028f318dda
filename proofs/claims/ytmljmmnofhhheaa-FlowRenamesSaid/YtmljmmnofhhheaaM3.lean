/- Plain facts on taking nodes away that have no edge to them, or from them, any more. -/
import Derived.Test.YtmljmmnofhhheaaM
namespace Go.Proofs.Ytmljmmnofhhheaa

def erase (S : NSet) (v : Nat) : NSet := fun j => if j = v then false else S j
theorem erase_sub {S : NSet} {v j : Nat} (h : erase S v j = true) : S j = true := by
  unfold erase at h; split at h
  · cases h
  · exact h
theorem erase_at (S : NSet) (v : Nat) : erase S v v = false := by simp [erase]
theorem erase_ne {S : NSet} {v j : Nat} (h : j ≠ v) : erase S v j = S j := by simp [erase, h]
theorem mark_erase {S : NSet} {v : Nat} (h : S v = true) : mark (erase S v) v = S := by
  funext j
  by_cases c : j = v
  · subst c; rw [mark_self, h]
  · unfold mark; rw [erase_ne c]; simp [c]
theorem cnt_erase {S : NSet} {v : Nat} (hv : v < 10) (h : S v = true) : cnt S < cnt (erase S v) := by
  have := cnt_mark hv (erase_at S v)
  rwa [mark_erase h] at this
theorem cnt_below {S : NSet} {n : Nat} (h : ∀ j, n ≤ j → S j = false) (hn : n ≤ 10) : 10 ≤ cnt S + n := by
  have h1 : cnt (fun j => decide (j < n)) ≤ cnt S := cnt_le fun j hj => by
    rw [decide_eq_true_iff]
    apply Nat.lt_of_not_le
    intro c; rw [h j c] at hj; cases hj
  have h2 : 10 ≤ cnt (fun j => decide (j < n)) + n := by
    have : n = 0 ∨ n = 1 ∨ n = 2 ∨ n = 3 ∨ n = 4 ∨ n = 5 ∨ n = 6 ∨ n = 7 ∨ n = 8 ∨ n = 9 ∨ n = 10 := by omega
    rcases this with rfl | rfl | rfl | rfl | rfl | rfl | rfl | rfl | rfl | rfl | rfl <;> decide
  omega
theorem cnt_full {S : NSet} (h : 10 ≤ cnt S) {j : Nat} (hj : j < 10) : S j = false := by
  rw [← Bool.not_eq_true]
  intro c
  have := cnt_erase hj c
  have := cnt_ten (erase S j)
  omega

def Sub (U S : NSet) : Prop := ∀ j, U j = true → S j = true
/-- A set of nodes each of which has one before it. -/
def Core (R : Nat → Nat → Prop) (U : NSet) : Prop := ∀ v, U v = true → ∃ u, U u = true ∧ R u v
def HasCore (R : Nat → Nat → Prop) (S : NSet) : Prop := ∃ U, Sub U S ∧ Core R U ∧ ∃ j, U j = true
theorem core_last {R : Nat → Nat → Prop} {S : NSet} (hS : ∀ j, S j = true → j < 10) (hno : ¬ HasCore (fun a b => R b a) S) (m : Nat) :
    ∀ U : NSet, Sub U S → 10 ≤ cnt U + m → (∃ j, U j = true) → ∃ y, U y = true ∧ ∀ u, U u = true → ¬ R u y := by
  induction m with
  | zero =>
    intro U hU hc ⟨j, hj⟩
    rw [cnt_full (S := U) (by omega) (hS j (hU j hj))] at hj
    cases hj
  | succ m ih =>
    intro U hU hc ⟨j, hj⟩
    have hx : ∃ x, U x = true ∧ ∀ u, U u = true → ¬ R x u := by
      apply Classical.byContradiction
      intro c
      apply hno
      refine ⟨U, hU, fun v hv => ?_, j, hj⟩
      apply Classical.byContradiction
      intro d
      exact c ⟨v, hv, fun u hu hr => d ⟨u, hu, hr⟩⟩
    obtain ⟨x, hxu, hx⟩ := hx
    by_cases he : ∃ k, erase U x k = true
    · have hlt := cnt_erase (hS x (hU x hxu)) hxu
      obtain ⟨y, hy, hyn⟩ := ih (erase U x) (fun j hj => hU j (erase_sub hj)) (by omega) he
      refine ⟨y, erase_sub hy, fun u hu hr => ?_⟩
      by_cases c : u = x
      · subst c; exact hx y (erase_sub hy) hr
      · exact hyn u (by rw [erase_ne c]; exact hu) hr
    · refine ⟨x, hxu, fun u hu hr => ?_⟩
      by_cases c : u = x
      · subst c; exact hx u hu hr
      · exact he ⟨u, by rw [erase_ne c]; exact hu⟩
theorem core_flip {R : Nat → Nat → Prop} {S : NSet} (hS : ∀ j, S j = true → j < 10) (h : HasCore R S) : HasCore (fun a b => R b a) S := by
  apply Classical.byContradiction
  intro hno
  obtain ⟨U, hU, hc, hj⟩ := h
  obtain ⟨y, hy, hn⟩ := core_last hS hno 10 U hU (by omega) hj
  obtain ⟨u, hu, hr⟩ := hc y hy
  exact hn u hu hr

/-- Rounds of taking away: of those set out from, the sets with ways round stay. -/
structure Peel (R : Nat → Nat → Prop) (S0 : NSet) (i : Nat) (S : NSet) : Prop where
  sub : Sub S S0
  core : ∀ U, Sub U S0 → Core R U → Sub U S
  num : cnt S0 + i ≤ cnt S ∨ Core R S
theorem Peel.zero {R : Nat → Nat → Prop} {S0 : NSet} : Peel R S0 0 S0 := ⟨fun _ h => h, fun _ h _ => h, .inl (Nat.le_refl _)⟩
/-- One round: the first j of the nodes that were there. -/
structure Peel1 (R : Nat → Nat → Prop) (S : NSet) (L : List Nat) (j : Nat) (T : NSet) : Prop where
  sub : Sub T S
  core : ∀ U, Sub U S → Core R U → Sub U T
  num : (T = S ∧ ∀ m, m < j → ∃ u, S u = true ∧ R u (L.getD m 0)) ∨ cnt S < cnt T
theorem Peel1.zero {R : Nat → Nat → Prop} {S : NSet} {L : List Nat} : Peel1 R S L 0 S := ⟨fun _ h => h, fun _ h _ => h, .inl ⟨rfl, fun _ h => absurd h (Nat.not_lt_zero _)⟩⟩
theorem Peel1.stays {R : Nat → Nat → Prop} {S T : NSet} {L : List Nat} {j : Nat} (h : Peel1 R S L j T) (hr : ∃ u, T u = true ∧ R u (L.getD j 0)) : Peel1 R S L (j + 1) T := by
  refine ⟨h.sub, h.core, ?_⟩
  rcases h.num with ⟨rfl, hm⟩ | c
  · refine .inl ⟨rfl, fun m hmj => ?_⟩
    rcases Nat.lt_or_ge m j with c | c
    · exact hm m c
    · obtain rfl : m = j := by omega
      exact hr
  · exact .inr c
theorem Peel1.goes {R : Nat → Nat → Prop} {S T : NSet} {L : List Nat} {j : Nat} (h : Peel1 R S L j T) (h10 : L.getD j 0 < 10) (hL : S (L.getD j 0) = true)
    (hr : ∀ u, T u = true → ¬ R u (L.getD j 0)) : Peel1 R S L (j + 1) (erase T (L.getD j 0)) := by
  refine ⟨fun u hu => h.sub u (erase_sub hu), fun U hU hc u hu => ?_, ?_⟩
  · by_cases c : u = L.getD j 0
    · obtain ⟨x, hx, hxr⟩ := hc u hu
      rw [c] at hxr
      exact absurd hxr (hr x (h.core U hU hc x hx))
    · rw [erase_ne c]; exact h.core U hU hc u hu
  · refine .inr ?_
    rcases h.num with ⟨rfl, _⟩ | c
    · exact cnt_erase h10 hL
    · exact Nat.lt_of_lt_of_le c (cnt_le fun u hu => erase_sub hu)
theorem Peel.next {R : Nat → Nat → Prop} {S0 S T : NSet} {i : Nat} {L : List Nat} (h : Peel R S0 i S) (k : Peel1 R S L L.length T) (hL : ∀ j, S j = true → j ∈ L) : Peel R S0 (i + 1) T := by
  refine ⟨fun j hj => h.sub j (k.sub j hj), fun U hU hc => k.core U (h.core U hU hc) hc, ?_⟩
  rcases h.num with c | c
  · rcases k.num with ⟨rfl, hm⟩ | d
    · refine .inr fun v hv => ?_
      obtain ⟨m, hm1, rfl⟩ := List.mem_iff_getElem.1 (hL v hv)
      have := hm m hm1
      rwa [List.getD_eq_getElem?_getD, List.getElem?_eq_getElem hm1] at this
    · exact .inl (by omega)
  · have e : T = S := by
      funext j
      rw [Bool.eq_iff_iff]
      exact ⟨k.sub j, k.core S (fun _ h => h) c j⟩
    subst e
    exact .inr c
theorem Peel.fin {R : Nat → Nat → Prop} {S0 S : NSet} {n : Nat} (h : Peel R S0 n S) (hn : n ≤ 10) (hS : ∀ j, n ≤ j → S0 j = false) : (∃ j, S j = true) ↔ HasCore R S0 := by
  constructor
  · intro ⟨j, hj⟩
    rcases h.num with c | c
    · have h10 : j < 10 := by
        apply Nat.lt_of_not_le
        intro d
        have := h.sub j hj
        rw [hS j (by omega)] at this; cases this
      have := cnt_below hS hn
      rw [cnt_full (S := S) (by omega) h10] at hj; cases hj
    · exact ⟨S, h.sub, c, j, hj⟩
  · intro ⟨U, hU, hc, j, hj⟩
    exact ⟨j, h.core U hU hc j hj⟩
/-- Going over all nodes until nothing changes. -/
theorem Peel.last {R : Nat → Nat → Prop} {S0 S : NSet} (hsub : Sub S S0) (hcore : ∀ U, Sub U S0 → Core R U → Sub U S) (hc : Core R S) : (∃ j, S j = true) ↔ HasCore R S0 :=
  ⟨fun ⟨j, hj⟩ => ⟨S, hsub, hc, j, hj⟩, fun ⟨U, hU, hcU, j, hj⟩ => ⟨j, hcore U hU hcU j hj⟩⟩
/-- .. the nodes below j. -/
structure Peel2 (R : Nat → Nat → Prop) (S : NSet) (j : Nat) (gone : Bool) (T : NSet) : Prop where
  sub : Sub T S
  core : ∀ U, Sub U S → Core R U → Sub U T
  same : gone = false → T = S ∧ ∀ m, m < j → S m = true → ∃ u, S u = true ∧ R u m
  less : gone = true → cnt S < cnt T
theorem Peel2.zero {R : Nat → Nat → Prop} {S : NSet} : Peel2 R S 0 false S := ⟨fun _ h => h, fun _ h _ => h, fun _ => ⟨rfl, fun _ h => absurd h (Nat.not_lt_zero _)⟩, fun h => by cases h⟩
theorem Peel2.stays {R : Nat → Nat → Prop} {S T : NSet} {j : Nat} {gone : Bool} (h : Peel2 R S j gone T) (hr : T j = true → ∃ u, T u = true ∧ R u j) : Peel2 R S (j + 1) gone T := by
  refine ⟨h.sub, h.core, fun hg => ?_, h.less⟩
  obtain ⟨e, hm⟩ := h.same hg
  refine ⟨e, fun m hmj hS => ?_⟩
  rcases Nat.lt_or_ge m j with c | c
  · exact hm m c hS
  · obtain rfl : m = j := by omega
    rw [e] at hr
    exact hr hS
theorem Peel2.goes {R : Nat → Nat → Prop} {S T : NSet} {j : Nat} {gone : Bool} (h : Peel2 R S j gone T) (h10 : j < 10) (hT : T j = true) (hr : ∀ u, T u = true → ¬ R u j) : Peel2 R S (j + 1) true (erase T j) := by
  refine ⟨fun u hu => h.sub u (erase_sub hu), fun U hU hc u hu => ?_, (fun c => by cases c), fun _ => ?_⟩
  · by_cases c : u = j
    · obtain ⟨x, hx, hxr⟩ := hc u hu
      rw [c] at hxr
      exact absurd hxr (hr x (h.core U hU hc x hx))
    · rw [erase_ne c]; exact h.core U hU hc u hu
  · have hlt := cnt_erase h10 hT
    cases gone
    · obtain ⟨rfl, _⟩ := h.same rfl
      exact hlt
    · have := h.less rfl
      omega
end Go.Proofs.Ytmljmmnofhhheaa
