/- Plain facts on moves in parallel: the row that is made of them, step by step. No program in sight. -/
import Derived.WalkKit
namespace Go.Proofs.Ytjfpaelmcepidaa

theorem perm_of_sub : ∀ (l m : List Nat), l.Nodup → (∀ x ∈ l, x ∈ m) → m.length ≤ l.length → l.Perm m
  | [], m, _, _, h => by
    have : m = [] := List.length_eq_zero_iff.1 (by simpa using h)
    subst this
    exact List.Perm.refl _
  | x :: l, m, hn, hs, h => by
    obtain ⟨hx, hl⟩ := List.nodup_cons.1 hn
    have hm := hs x (by simp)
    have h1 := perm_of_sub l (m.erase x) hl (fun y hy => by
      have hne : y ≠ x := fun e => hx (e ▸ hy)
      exact (List.mem_erase_of_ne hne).2 (hs y (by simp [hy]))) (by rw [List.length_erase_of_mem hm]; simp only [List.length_cons] at h; omega)
    exact (h1.cons x).trans (List.perm_cons_erase hm).symm
theorem sub_len : ∀ (l m : List Nat), l.Nodup → (∀ x ∈ l, x ∈ m) → l.length ≤ m.length
  | [], m, _, _ => Nat.zero_le _
  | x :: l, m, hn, h => by
    obtain ⟨hx, hl⟩ := List.nodup_cons.1 hn
    have hm := h x (by simp)
    have h1 := sub_len l (m.erase x) hl fun y hy => by
      have hne : y ≠ x := fun e => hx (e ▸ hy)
      exact (List.mem_erase_of_ne hne).2 (h y (by simp [hy]))
    rw [List.length_erase_of_mem hm] at h1
    have := List.length_pos_of_mem hm
    simp only [List.length_cons]
    omega
theorem nodup_len {l r : List Nat} (hl : l.Nodup) (hr : r.Nodup) (h : ∀ j, j ∈ l ↔ j ∈ r) : l.length = r.length :=
  ((List.perm_ext_iff_of_nodup hl hr).2 h).length_eq

/-- What is moved into a register, and a few other such maps. -/
abbrev PF := Nat → Option Nat
def keysL (f : PF) : List Nat := (List.range 31).filter fun k => (f k).isSome
theorem keysL_mem {f : PF} {k : Nat} : k ∈ keysL f ↔ k < 31 ∧ (f k).isSome = true := by simp [keysL]
theorem keysL_nodup (f : PF) : (keysL f).Nodup := List.Pairwise.filter _ List.nodup_range
theorem keysL_sorted (f : PF) : (keysL f).Pairwise (· < ·) := List.Pairwise.filter _ List.pairwise_lt_range
def put (f : PF) (k v : Nat) : PF := fun j => if j = k then some v else f j
def del (f : PF) (k : Nat) : PF := fun j => if j = k then none else f j
theorem put_at (f : PF) (k v : Nat) : put f k v k = some v := if_pos rfl
theorem put_ne {f : PF} {k v j : Nat} (h : j ≠ k) : put f k v j = f j := if_neg h
theorem del_at (f : PF) (k : Nat) : del f k k = none := if_pos rfl
theorem del_ne {f : PF} {k j : Nat} (h : j ≠ k) : del f k j = f j := if_neg h
theorem del_some {f : PF} {k j x : Nat} (h : del f k j = some x) : j ≠ k ∧ f j = some x := by
  by_cases c : j = k
  · subst c; rw [del_at] at h; cases h
  · rw [del_ne c] at h; exact ⟨c, h⟩
theorem keysL_del {f : PF} {k : Nat} (hk : k ∈ keysL f) : (keysL (del f k)).length + 1 = (keysL f).length := by
  have h1 : (k :: keysL (del f k)).length = (keysL f).length := nodup_len (List.nodup_cons.2 ⟨fun h => by rw [keysL_mem, del_at] at h; simp at h, keysL_nodup _⟩) (keysL_nodup _) fun j => by
    rw [List.mem_cons, keysL_mem, keysL_mem]
    constructor
    · rintro (rfl | ⟨h1, h2⟩)
      · exact keysL_mem.1 hk
      · by_cases c : j = k
        · subst c; rw [del_at] at h2; cases h2
        · rw [del_ne c] at h2; exact ⟨h1, h2⟩
    · rintro ⟨h1, h2⟩
      by_cases c : j = k
      · exact .inl c
      · exact .inr ⟨h1, by rw [del_ne c]; exact h2⟩
  simpa using h1

/-- The state of the making of a row. -/
structure RSt where
  fr : PF
  cp : PF
  dn : List (Nat × Nat)
def readB (f : PF) (t : Nat) : Bool := (keysL f).any fun o => decide (o ≠ t) && decide (f o = some t)
def okF (s : RSt) (t : Nat) : Bool := !readB s.fr t || (s.cp t).isSome
def freeO (s : RSt) : Option Nat := (keysL s.fr).find? (okF s)
def firstK (s : RSt) : Nat := (keysL s.fr).headD 0
def breakS (sp : Nat) (s : RSt) : RSt := ⟨s.fr, put s.cp (firstK s) sp, s.dn ++ [(sp, firstK s)]⟩
def nextV (s : RSt) (t : Nat) : Nat := (s.fr t).getD 0
def moveS (s : RSt) (t : Nat) : RSt := ⟨del s.fr t, if (s.cp (nextV s t)).isSome then s.cp else put s.cp (nextV s t) t, s.dn ++ [(t, (s.cp (nextV s t)).getD (nextV s t))]⟩
def stepS (sp : Nat) (s : RSt) : RSt := match freeO s with
  | some t => moveS s t
  | none => moveS (breakS sp s) (firstK s)
def iterS (sp : Nat) (s : RSt) : Nat → RSt
  | 0 => s
  | n + 1 => stepS sp (iterS sp s n)
/-- The moves of a list that are none into themselves, as a map. -/
def fromF (l : List (Nat × Nat)) : PF := fun r => (l.find? fun m => m.1 == r && m.2 != r).map (·.2)
def startS (l : List (Nat × Nat)) : RSt := ⟨fromF l, fun _ => none, []⟩
/-- The row. -/
def rowL (l : List (Nat × Nat)) (sp : Nat) : List (Nat × Nat) := (iterS sp (startS l) (keysL (fromF l)).length).dn

/-- Moves in parallel that are right. -/
structure MOk (l : List (Nat × Nat)) : Prop where
  len : l.length ≤ 8
  reg : ∀ m ∈ l, m.1 ≤ 30 ∧ m.2 ≤ 30
  one : (l.map (·.1)).Nodup
theorem pair_same {l : List (Nat × Nat)} (h : (l.map (·.1)).Nodup) {t a b : Nat} (ha : (t, a) ∈ l) (hb : (t, b) ∈ l) : a = b := by
  induction l with
  | nil => cases ha
  | cons m l ih =>
    rw [List.map_cons, List.nodup_cons] at h
    rcases List.mem_cons.1 ha with ea | ha <;> rcases List.mem_cons.1 hb with eb | hb
    · rw [← eb] at ea; simpa using ea
    · exfalso; apply h.1; rw [← ea]; exact List.mem_map.2 ⟨_, hb, rfl⟩
    · exfalso; apply h.1; rw [← eb]; exact List.mem_map.2 ⟨_, ha, rfl⟩
    · exact ih h.2 ha hb
theorem fromF_iff {l : List (Nat × Nat)} (h : MOk l) {t x : Nat} : fromF l t = some x ↔ (t, x) ∈ l ∧ x ≠ t := by
  unfold fromF
  rw [Option.map_eq_some_iff]
  constructor
  · rintro ⟨m, hm, rfl⟩
    have h1 := List.mem_of_find?_eq_some hm
    have h2 := List.find?_some hm
    rw [Bool.and_eq_true] at h2
    have h3 : m.1 = t := by simpa using h2.1
    have h4 : m.2 ≠ t := by simpa using h2.2
    subst h3
    exact ⟨h1, h4⟩
  · rintro ⟨h1, h2⟩
    cases hf : l.find? fun m => m.1 == t && m.2 != t with
    | none =>
      have := List.find?_eq_none.1 hf _ h1
      simp [h2] at this
    | some m =>
      have h3 := List.mem_of_find?_eq_some hf
      have h4 := List.find?_some hf
      rw [Bool.and_eq_true] at h4
      have h5 : m.1 = t := by simpa using h4.1
      subst h5
      exact ⟨m, rfl, pair_same h.one h3 h1⟩
/-- How many moves read a register. -/
def rdN (f : PF) (x : Nat) : Nat := ((keysL f).filter fun o => decide (f o = some x)).length
def readersN (l : List (Nat × Nat)) (r : Nat) : Nat := (l.filter fun m => decide (m.2 = r) && decide (m.1 ≠ r)).length
theorem readers_eq {l : List (Nat × Nat)} (h : MOk l) (r : Nat) : readersN l r = rdN (fromF l) r := by
  unfold readersN rdN
  have h1 : (l.filter fun m => decide (m.2 = r) && decide (m.1 ≠ r)).length = ((l.filter fun m => decide (m.2 = r) && decide (m.1 ≠ r)).map (·.1)).length := by simp
  rw [h1]
  refine nodup_len ?_ ((keysL_nodup _).filter _) fun j => ?_
  · exact List.Nodup.sublist (List.Sublist.map _ List.filter_sublist) h.one
  · rw [List.mem_map, List.mem_filter, decide_eq_true_iff, fromF_iff h, keysL_mem]
    constructor
    · rintro ⟨m, hm, rfl⟩
      obtain ⟨h2, h3⟩ := List.mem_filter.1 hm
      rw [Bool.and_eq_true, decide_eq_true_iff, decide_eq_true_iff] at h3
      obtain ⟨rfl, h4⟩ := h3
      have hf : fromF l m.1 = some m.2 := (fromF_iff h).2 ⟨h2, fun e => h4 e.symm⟩
      exact ⟨⟨by have := (h.reg _ h2).1; omega, by rw [hf]; rfl⟩, h2, fun e => h4 e.symm⟩
    · rintro ⟨_, h2, h3⟩
      refine ⟨(j, r), List.mem_filter.2 ⟨h2, ?_⟩, rfl⟩
      rw [Bool.and_eq_true, decide_eq_true_iff, decide_eq_true_iff]
      exact ⟨rfl, fun e => h3 e.symm⟩
end Go.Proofs.Ytjfpaelmcepidaa
