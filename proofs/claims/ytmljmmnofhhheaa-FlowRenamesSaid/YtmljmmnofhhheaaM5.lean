/- Plain facts on the loop of a head: going back from its back edges. -/
import Derived.Test.YtmljmmnofhhheaaM
namespace Go.Proofs.Ytmljmmnofhhheaa

/-- A way along a relation. -/
def Way (E : Nat → Nat → Prop) (s j : Nat) : Prop := ∀ C : Nat → Prop, C s → (∀ u x, C u → E u x → C x) → C j
theorem Way.here {E : Nat → Nat → Prop} {s : Nat} : Way E s s := fun _ h _ => h
theorem Way.step {E : Nat → Nat → Prop} {s u x : Nat} (h : Way E s u) (e : E u x) : Way E s x := fun C h0 h1 => h1 u x (h C h0 h1) e
theorem Way.head {E : Nat → Nat → Prop} {s u x : Nat} (e : E s u) (h : Way E u x) : Way E s x := h (Way E s) (Way.here.step e) (fun _ _ h e => h.step e)
/-- What a visit along a relation makes of the set of seen nodes. -/
structure Vis (E : Nat → Nat → Prop) (ok : NSet) (v : Nat) (S S' : NSet) : Prop where
  sub : ∀ j, S j = true → S' j = true
  new : ∀ j, S' j = true → S j = true ∨ (ok v = true ∧ Way E v j)
  top : ok v = true → S' v = true
  closed : ∀ u, S' u = true → S u = false → ∀ x, E u x → S' x = true
/-- .. of the first k of some nodes. -/
structure VisL (E : Nat → Nat → Prop) (ok : NSet) (v : Nat) (L : List Nat) (k : Nat) (S S' : NSet) : Prop where
  sub : ∀ j, S j = true → S' j = true
  new : ∀ j, S' j = true → S j = true ∨ Way E v j
  done : ∀ i, i < k → ok (L.getD i 0) = true → S' (L.getD i 0) = true
  closed : ∀ u, S' u = true → S u = false → ∀ x, E u x → S' x = true
theorem Vis.not {E : Nat → Nat → Prop} {ok : NSet} {v : Nat} {S : NSet} (h : ok v = false) : Vis E ok v S S :=
  ⟨fun _ h => h, fun _ h => .inl h, (fun c => by rw [h] at c; cases c), fun u hu hn => by rw [hu] at hn; cases hn⟩
theorem Vis.seen {E : Nat → Nat → Prop} {ok : NSet} {v : Nat} {S : NSet} (h : S v = true) : Vis E ok v S S :=
  ⟨fun _ h => h, fun _ h => .inl h, fun _ => h, fun u hu hn => by rw [hu] at hn; cases hn⟩
theorem VisL.zero {E : Nat → Nat → Prop} {ok : NSet} {v : Nat} {L : List Nat} {S : NSet} : VisL E ok v L 0 S S :=
  ⟨fun _ h => h, fun _ h => .inl h, fun i hi => absurd hi (Nat.not_lt_zero _), fun u hu hn => by rw [hu] at hn; cases hn⟩
theorem VisL.next {E : Nat → Nat → Prop} {ok : NSet} {v k : Nat} {L : List Nat} {S S' S'' : NSet} (h : VisL E ok v L k S S') (hE : ok (L.getD k 0) = true → E v (L.getD k 0)) (d : Vis E ok (L.getD k 0) S' S'') : VisL E ok v L (k + 1) S S'' := by
  refine ⟨fun j hj => d.sub j (h.sub j hj), fun j hj => ?_, fun i hi hb => ?_, fun u hu hn x hx => ?_⟩
  · rcases d.new j hj with c | ⟨c1, c2⟩
    · exact h.new j c
    · exact .inr (Way.head (hE c1) c2)
  · rcases Nat.lt_or_ge i k with c | c
    · exact d.sub _ (h.done i c hb)
    · obtain rfl : i = k := by omega
      exact d.top hb
  · by_cases c : S' u = true
    · exact d.sub _ (h.closed u c hn x hx)
    · exact d.closed u hu (by simpa using c) x hx
theorem VisL.fin {E : Nat → Nat → Prop} {ok : NSet} {v : Nat} {L : List Nat} {S S' : NSet} (hv : ok v = true) (hL : ∀ x, E v x → x ∈ L ∧ ok x = true) (h : VisL E ok v L L.length (mark S v) S') : Vis E ok v S S' := by
  refine ⟨fun j hj => h.sub j (mark_of hj), fun j hj => ?_, fun _ => h.sub v (mark_self S v), fun u hu hn x hx => ?_⟩
  · rcases h.new j hj with c | c
    · rcases mark_cases c with c | rfl
      · exact .inl c
      · exact .inr ⟨hv, .here⟩
    · exact .inr ⟨hv, c⟩
  · by_cases c : mark S v u = true
    · rcases mark_cases c with c | rfl
      · rw [c] at hn; cases hn
      · obtain ⟨hx1, hx2⟩ := hL x hx
        obtain ⟨i, hi, rfl⟩ := List.mem_iff_getElem.1 hx1
        have := h.done i hi
        rw [List.getD_eq_getElem?_getD, List.getElem?_eq_getElem hi] at this
        exact this hx2
    · exact h.closed u hu (by simpa using c) x hx
/-- A node that goes no further. -/
theorem Vis.end {E : Nat → Nat → Prop} {ok : NSet} {v : Nat} {S : NSet} (hv : ok v = true) (hE : ∀ x, ¬ E v x) : Vis E ok v S (mark S v) :=
  ⟨fun j hj => mark_of hj, fun j hj => by
    rcases mark_cases hj with c | rfl
    · exact .inl c
    · exact .inr ⟨hv, .here⟩, fun _ => mark_self S v, fun u hu hn x hx => by
    rcases mark_cases hu with c | rfl
    · rw [c] at hn; cases hn
    · exact absurd hx (hE x)⟩

/-- Going back from a node that is not the head. -/
def backE (g : Gr) (head : Nat) (all : NSet) (u x : Nat) : Prop := u ≠ head ∧ u ∈ succ g x ∧ all x = true
/-- The first i edges are done. -/
structure LInv (E : Nat → Nat → Prop) (head : Nat) (F : List (Nat × Nat)) (i : Nat) (S : NSet) : Prop where
  new : ∀ j, S j = true → ∃ k, k < i ∧ (F.getD k (0, 0)).2 = head ∧ (j = head ∨ Way E (F.getD k (0, 0)).1 j)
  has : ∀ k, k < i → (F.getD k (0, 0)).2 = head → S head = true ∧ S (F.getD k (0, 0)).1 = true
  closed : ∀ u, S u = true → ∀ x, E u x → S x = true
theorem LInv.zero {E : Nat → Nat → Prop} {head : Nat} {F : List (Nat × Nat)} : LInv E head F 0 (fun _ => false) :=
  ⟨(fun _ h => by cases h), fun k h => absurd h (Nat.not_lt_zero _), (fun _ h => by cases h)⟩
theorem LInv.skip {E : Nat → Nat → Prop} {head i : Nat} {F : List (Nat × Nat)} {S : NSet} (h : LInv E head F i S) (hn : (F.getD i (0, 0)).2 ≠ head) : LInv E head F (i + 1) S := by
  refine ⟨fun j hj => ?_, fun k hk hh => ?_, h.closed⟩
  · obtain ⟨k, hk, c⟩ := h.new j hj
    exact ⟨k, by omega, c⟩
  · rcases Nat.lt_or_ge k i with c | c
    · exact h.has k c hh
    · obtain rfl : k = i := by omega
      exact absurd hh hn
theorem LInv.next {E : Nat → Nat → Prop} {ok : NSet} {head i : Nat} {F : List (Nat × Nat)} {S S' : NSet} (h : LInv E head F i S) (hE : ∀ x, ¬ E head x) (hh : (F.getD i (0, 0)).2 = head) (hok : ok (F.getD i (0, 0)).1 = true)
    (d : Vis E ok (F.getD i (0, 0)).1 (mark S head) S') : LInv E head F (i + 1) S' := by
  refine ⟨fun j hj => ?_, fun k hk hkh => ?_, fun u hu x hx => ?_⟩
  · rcases d.new j hj with c | ⟨_, c⟩
    · rcases mark_cases c with c | rfl
      · obtain ⟨k, hk, c⟩ := h.new j c
        exact ⟨k, by omega, c⟩
      · exact ⟨i, by omega, hh, .inl rfl⟩
    · exact ⟨i, by omega, hh, .inr c⟩
  · refine ⟨d.sub _ (mark_self S head), ?_⟩
    rcases Nat.lt_or_ge k i with c | c
    · exact d.sub _ (mark_of (h.has k c hkh).2)
    · obtain rfl : k = i := by omega
      exact d.top hok
  · by_cases c : mark S head u = true
    · rcases mark_cases c with c | rfl
      · exact d.sub _ (mark_of (h.closed u c x hx))
      · exact absurd hx (hE x)
    · exact d.closed u hu (by simpa using c) x hx
theorem LInv.fin {E : Nat → Nat → Prop} {head : Nat} {F : List (Nat × Nat)} {S : NSet} (h : LInv E head F F.length S) (j : Nat) : S j = true ↔ ∃ e ∈ F, e.2 = head ∧ (j = head ∨ Way E e.1 j) := by
  constructor
  · intro hj
    obtain ⟨k, hk, c1, c2⟩ := h.new j hj
    have e : F.getD k (0, 0) = F[k] := by rw [List.getD_eq_getElem?_getD, List.getElem?_eq_getElem hk]; rfl
    exact ⟨F[k], List.getElem_mem hk, by rw [← e]; exact c1, by rw [← e]; exact c2⟩
  · rintro ⟨e, he, c1, c2⟩
    obtain ⟨k, hk, rfl⟩ := List.mem_iff_getElem.1 he
    have e : F.getD k (0, 0) = F[k] := by rw [List.getD_eq_getElem?_getD, List.getElem?_eq_getElem hk]; rfl
    rw [← e] at c1 c2
    have hs := h.has k hk c1
    rcases c2 with rfl | c2
    · exact hs.1
    · exact c2 (fun j => S j = true) hs.2 (fun u x hu hx => h.closed u hu x hx)
/-- A way back is a way that does not go through the head. -/
theorem back_reach {g : Gr} {head a j : Nat} (ha : rs g (-1) 0 a = true) (hne : j ≠ head) : Way (backE g head (rs g (-1) 0)) a j ↔ rs g (-1) 0 j = true ∧ ReachB g head j a := by
  constructor
  · intro h
    have := h (fun j => j = head ∨ (rs g (-1) 0 j = true ∧ ReachB g head j a)) (by
      by_cases c : a = head
      · exact .inl c
      · exact .inr ⟨ha, .here (by omega)⟩) (fun u x hu hx => by
      obtain ⟨h1, h2, h3⟩ := hx
      by_cases c : x = head
      · exact .inl c
      · rcases hu with hu | hu
        · exact absurd hu h1
        · exact .inr ⟨h3, ReachB.head (by omega) h2 hu.2⟩)
    rcases this with c | c
    · exact absurd c hne
    · exact c
  · rintro ⟨hj, hr⟩
    have hj' := rs_iff.1 hj
    refine (hr.ind (fun x => Way (backE g head (rs g (-1) 0)) x j ∧ ReachB g (-1) 0 x) (fun _ => ⟨.here, hj'⟩) (fun u x _ hu hx hb => ?_)).1
    exact ⟨Way.head ⟨by omega, hx, rs_iff.2 hu.2⟩ hu.1, hu.2.step hx (by omega)⟩
/-- The loop of a head: it, if an edge goes back to it, and the nodes from which a way leads to such an edge. -/
noncomputable def loopS (g : Gr) (B : List (Nat × Nat)) (head : Nat) : NSet := fun v =>
  @decide (∃ e ∈ B, e.2 = head ∧ (v = head ∨ (v ≠ head ∧ rs g (-1) 0 v = true ∧ ReachB g head v e.1))) (Classical.propDecidable _)
theorem loopS_iff {g : Gr} {B : List (Nat × Nat)} {head v : Nat} : loopS g B head v = true ↔ ∃ e ∈ B, e.2 = head ∧ (v = head ∨ (v ≠ head ∧ rs g (-1) 0 v = true ∧ ReachB g head v e.1)) := by
  unfold loopS; exact @decide_eq_true_iff _ (Classical.propDecidable _)
theorem LInv.loop {g : Gr} {head : Nat} {F : List (Nat × Nat)} {S : NSet} (hF : ∀ e ∈ F, rs g (-1) 0 e.1 = true) (h : LInv (backE g head (rs g (-1) 0)) head F F.length S) : S = loopS g F head := by
  funext j
  rw [Bool.eq_iff_iff, h.fin, loopS_iff]
  constructor
  · rintro ⟨e, he, h1, h2⟩
    refine ⟨e, he, h1, ?_⟩
    by_cases c : j = head
    · exact .inl c
    · rcases h2 with h2 | h2
      · exact .inl h2
      · exact .inr ⟨c, (back_reach (hF e he) c).1 h2⟩
  · rintro ⟨e, he, h1, h2⟩
    refine ⟨e, he, h1, ?_⟩
    rcases h2 with h2 | ⟨h2, h3⟩
    · exact .inl h2
    · exact .inr ((back_reach (hF e he) h2).2 h3)
end Go.Proofs.Ytmljmmnofhhheaa
