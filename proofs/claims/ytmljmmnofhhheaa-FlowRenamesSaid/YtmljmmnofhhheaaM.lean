/- Plain facts on graphs: reaching, visiting. No program in sight. -/
import Derived.WalkKit
namespace Go.Proofs.Ytmljmmnofhhheaa

/-- A graph: of each node its successors. -/
abbrev Gr := List (List Nat)
def succ (g : Gr) (v : Nat) : List Nat := g.getD v []
/-- Every successor is a node. -/
def Fits (g : Gr) : Prop := ∀ v x, x ∈ succ g v → x < g.length
/-- What a valid graph is. -/
structure OkG (g : Gr) : Prop where
  fits : Fits g
  pos : 0 < g.length
  ten : g.length ≤ 10
  deg : ∀ v, (succ g v).length ≤ 2
theorem succ_out {g : Gr} {v : Nat} (h : g.length ≤ v) : succ g v = [] := by
  unfold succ; rw [List.getD_eq_getElem?_getD, List.getElem?_eq_none h]; rfl
theorem lt_of_succ {g : Gr} {v x : Nat} (h : x ∈ succ g v) : v < g.length := by
  apply Nat.lt_of_not_le
  intro c
  rw [succ_out c] at h
  cases h

/-- A way leads from one node to another that does not go through a third one: the node lies in every set that has the first one and goes on. -/
def ReachB (g : Gr) (but : Int) (s j : Nat) : Prop :=
  ∀ C : Nat → Prop, ((s : Int) ≠ but → C s) → (∀ u x, C u → x ∈ succ g u → (x : Int) ≠ but → C x) → C j
theorem ReachB.here {g : Gr} {but : Int} {s : Nat} (h : (s : Int) ≠ but) : ReachB g but s s := fun _ h0 _ => h0 h
theorem ReachB.step {g : Gr} {but : Int} {s u x : Nat} (h : ReachB g but s u) (hx : x ∈ succ g u) (hb : (x : Int) ≠ but) : ReachB g but s x :=
  fun C h0 h1 => h1 u x (h C h0 h1) hx hb
/-- Induction along the way. -/
theorem ReachB.ind {g : Gr} {but : Int} {s j : Nat} (h : ReachB g but s j) (P : Nat → Prop) (h0 : (s : Int) ≠ but → P s)
    (h1 : ∀ u x, ReachB g but s u → P u → x ∈ succ g u → (x : Int) ≠ but → P x) : P j :=
  (h (fun x => ReachB g but s x ∧ P x) (fun c => ⟨.here c, h0 c⟩) (fun u x ⟨hu, pu⟩ hx hb => ⟨hu.step hx hb, h1 u x hu pu hx hb⟩)).2
theorem ReachB.start {g : Gr} {but : Int} {s x : Nat} (k : ReachB g but s x) : (s : Int) ≠ but := k.ind (fun _ => (s : Int) ≠ but) id (fun _ _ _ h _ _ => h)
theorem ReachB.fin {g : Gr} {but : Int} {s x : Nat} (k : ReachB g but s x) : (x : Int) ≠ but := k.ind (fun x => (x : Int) ≠ but) id (fun _ _ _ _ _ h => h)
theorem ReachB.trans {g : Gr} {but : Int} {s u x : Nat} (h : ReachB g but s u) (k : ReachB g but u x) : ReachB g but s x :=
  k.ind (ReachB g but s) (fun _ => h) (fun _ _ _ ih hx hb => ih.step hx hb)
theorem ReachB.head {g : Gr} {but : Int} {s u x : Nat} (hs : (s : Int) ≠ but) (hu : u ∈ succ g s) (k : ReachB g but u x) : ReachB g but s x :=
  ReachB.trans (.step (.here hs) hu k.start) k
theorem ReachB.lt {g : Gr} {but : Int} {s x : Nat} (hg : Fits g) (hs : s < g.length) (k : ReachB g but s x) : x < g.length :=
  k.ind (· < g.length) (fun _ => hs) (fun _ _ _ _ hx _ => hg _ _ hx)

abbrev NSet := Nat → Bool
def mark (S : NSet) (v : Nat) : NSet := fun j => S j || decide (j = v)
theorem mark_self (S : NSet) (v : Nat) : mark S v v = true := by simp [mark]
theorem mark_of {S : NSet} {v j : Nat} (h : S j = true) : mark S v j = true := by simp [mark, h]
theorem mark_cases {S : NSet} {v j : Nat} (h : mark S v j = true) : S j = true ∨ j = v := by simpa [mark] using h

/-- How many of the ten are not in a set. -/
def cnt (S : NSet) : Nat := ((List.range 10).filter fun j => !S j).length
theorem cnt_le {S T : NSet} (h : ∀ j, S j = true → T j = true) : cnt T ≤ cnt S := by
  unfold cnt
  rw [← List.countP_eq_length_filter, ← List.countP_eq_length_filter]
  exact List.countP_mono_left fun j _ hj => by
    have : T j = false := by simpa using hj
    simp only [Bool.not_eq_true']
    rw [← Bool.not_eq_true]
    intro c; rw [h j c] at this; cases this
theorem countP_lt {l : List Nat} {p q : Nat → Bool} (h : ∀ j ∈ l, p j = true → q j = true) {v : Nat} (hv : v ∈ l) (h1 : q v = true) (h2 : p v = false) : l.countP p < l.countP q := by
  induction l with
  | nil => cases hv
  | cons x l ih =>
    rw [List.countP_cons, List.countP_cons]
    have hm : l.countP p ≤ l.countP q := List.countP_mono_left fun j hj => h j (by simp [hj])
    rcases List.mem_cons.1 hv with rfl | hv'
    · rw [h1, h2]; simp; omega
    · have := ih (fun j hj => h j (by simp [hj])) hv'
      by_cases hp : p x = true
      · rw [hp, h x (by simp) hp]; simp; omega
      · simp only [hp]; simp; omega
theorem cnt_mark {S : NSet} {v : Nat} (hv : v < 10) (h : S v = false) : cnt (mark S v) < cnt S := by
  unfold cnt
  rw [← List.countP_eq_length_filter, ← List.countP_eq_length_filter]
  exact countP_lt (v := v) (fun j _ hj => by
    have : mark S v j = false := by simpa using hj
    simp only [Bool.not_eq_true']
    rw [← Bool.not_eq_true]
    intro c; rw [mark_of c] at this; cases this) (by simpa using hv) (by simp [h]) (by simp [mark_self])
theorem cnt_pos {S : NSet} {v : Nat} (hv : v < 10) (h : S v = false) : 0 < cnt S := by
  have := cnt_mark hv h; omega
theorem cnt_ten (S : NSet) : cnt S ≤ 10 := by
  unfold cnt
  exact Nat.le_trans (List.length_filter_le _ _) (by simp)

/-- What a visit of a node makes of the set of seen nodes. -/
structure Dfs (g : Gr) (but : Int) (v : Nat) (S S' : NSet) : Prop where
  sub : ∀ j, S j = true → S' j = true
  new : ∀ j, S' j = true → S j = true ∨ ReachB g but v j
  top : (v : Int) ≠ but → S' v = true
  closed : ∀ u, S' u = true → S u = false → ∀ x ∈ succ g u, (x : Int) ≠ but → S' x = true
/-- .. of its first k successors. -/
structure DfsL (g : Gr) (but : Int) (v : Nat) (k : Nat) (S S' : NSet) : Prop where
  sub : ∀ j, S j = true → S' j = true
  new : ∀ j, S' j = true → S j = true ∨ ReachB g but v j
  done : ∀ i, i < k → ((succ g v).getD i 0 : Int) ≠ but → S' ((succ g v).getD i 0) = true
  closed : ∀ u, S' u = true → S u = false → ∀ x ∈ succ g u, (x : Int) ≠ but → S' x = true
theorem Dfs.but {g : Gr} {but : Int} {v : Nat} {S : NSet} (h : (v : Int) = but) : Dfs g but v S S :=
  ⟨fun _ h => h, fun _ h => .inl h, fun c => absurd h c, fun u hu hn => by rw [hu] at hn; cases hn⟩
theorem Dfs.seen {g : Gr} {but : Int} {v : Nat} {S : NSet} (h : S v = true) : Dfs g but v S S :=
  ⟨fun _ h => h, fun _ h => .inl h, fun _ => h, fun u hu hn => by rw [hu] at hn; cases hn⟩
theorem DfsL.zero {g : Gr} {but : Int} {v : Nat} {S : NSet} : DfsL g but v 0 S S :=
  ⟨fun _ h => h, fun _ h => .inl h, fun i hi => absurd hi (Nat.not_lt_zero _), fun u hu hn => by rw [hu] at hn; cases hn⟩
theorem getD_mem {l : List Nat} {k : Nat} (h : k < l.length) : l.getD k 0 ∈ l := by
  rw [List.getD_eq_getElem?_getD, List.getElem?_eq_getElem h]; simp
theorem DfsL.next {g : Gr} {but : Int} {v k : Nat} {S S' S'' : NSet} (h : DfsL g but v k S S') (hv : (v : Int) ≠ but) (hk : k < (succ g v).length)
    (d : Dfs g but ((succ g v).getD k 0) S' S'') : DfsL g but v (k + 1) S S'' := by
  refine ⟨fun j hj => d.sub j (h.sub j hj), fun j hj => ?_, fun i hi hb => ?_, fun u hu hn x hx hb => ?_⟩
  · rcases d.new j hj with c | c
    · exact h.new j c
    · exact .inr (ReachB.head hv (getD_mem hk) c)
  · rcases Nat.lt_or_ge i k with c | c
    · exact d.sub _ (h.done i c hb)
    · obtain rfl : i = k := by omega
      exact d.top hb
  · by_cases c : S' u = true
    · exact d.sub _ (h.closed u c hn x hx hb)
    · exact d.closed u hu (by simpa using c) x hx hb
theorem DfsL.fin {g : Gr} {but : Int} {v : Nat} {S S' : NSet} (hv : (v : Int) ≠ but) (h : DfsL g but v (succ g v).length (mark S v) S') : Dfs g but v S S' := by
  refine ⟨fun j hj => h.sub j (mark_of hj), fun j hj => ?_, fun _ => h.sub v (mark_self S v), fun u hu hn x hx hb => ?_⟩
  · rcases h.new j hj with c | c
    · rcases mark_cases c with c | rfl
      · exact .inl c
      · exact .inr (.here hv)
    · exact .inr c
  · by_cases c : mark S v u = true
    · rcases mark_cases c with c | rfl
      · rw [c] at hn; cases hn
      · obtain ⟨i, hi, rfl⟩ := List.mem_iff_getElem.1 hx
        have := h.done i hi
        rw [List.getD_eq_getElem?_getD, List.getElem?_eq_getElem hi] at this
        exact this hb
    · exact h.closed u hu (by simpa using c) x hx hb

/-- The nodes that are reached, as a set. -/
noncomputable def rs (g : Gr) (but : Int) (s : Nat) : NSet := fun j => @decide (ReachB g but s j) (Classical.propDecidable _)
theorem rs_iff {g : Gr} {but : Int} {s j : Nat} : rs g but s j = true ↔ ReachB g but s j := by
  unfold rs; exact @decide_eq_true_iff _ (Classical.propDecidable _)
theorem Dfs.all {g : Gr} {but : Int} {s : Nat} {S' : NSet} (h : Dfs g but s (fun _ => false) S') : S' = rs g but s := by
  funext j
  rw [Bool.eq_iff_iff, rs_iff]
  constructor
  · intro hj
    rcases h.new j hj with c | c
    · cases c
    · exact c
  · intro hr
    exact hr.ind (fun x => S' x = true) h.top (fun u x _ hu hx hb => h.closed u hu rfl x hx hb)
end Go.Proofs.Ytmljmmnofhhheaa
