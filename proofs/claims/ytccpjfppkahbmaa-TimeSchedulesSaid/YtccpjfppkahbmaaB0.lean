/- Plainly: the orders that the program goes through are those of the specification, in the same order. -/
import Derived.Test.YtccpjfppkahbmaaH0
namespace Go.Proofs.Ytccpjfppkahbmaa
open Go.RowKit PK

/-- All lists with each of some numbers once, in ascending order. -/
def permsL : Nat → List Int → List (List Int)
  | 0, _ => [[]]
  | r + 1, l => (List.range l.length).flatMap fun i => (permsL r (l.eraseIdx i)).map fun p => l.getD i 0 :: p
/-- The instruction k may come next. -/
def openB (l : List Cd) (o : List Int) (k : Nat) : Bool := (tabN l k k).all (fun i => o.contains i) && !o.contains (k : Int)
/-- The orders that begin with o, as the program goes through them. -/
def dfsL (l : List Cd) : Nat → List Int → List (List Int)
  | 0, o => [o]
  | r + 1, o => (List.range l.length).flatMap fun k => if openB l o k = true then dfsL l r (o ++ [(k : Int)]) else []
/-- y must come ahead of x. -/
def badB (l : List Cd) (y x : Int) : Bool := decide (y < x) && depB (atC l y.toNat) (atC l x.toNat)
def goodP (l : List Cd) (p : List Int) : Prop := p.Pairwise fun x y => badB l y x = false
instance (l : List Cd) (p : List Int) : Decidable (goodP l p) := by unfold goodP; exact inferInstance
theorem ordOK_good (l : List Cd) (p : List Int) : ordOK l p p.length = decide (goodP l p) := by
  rw [Bool.eq_iff_iff, decide_eq_true_eq]
  unfold goodP
  rw [List.pairwise_iff_getElem]
  constructor
  · intro h i j hi hj hij
    have hp : pairOK l p i j = true := by
      cases e : pairOK l p i j
      · rw [ordOK_bad hi hj hij e] at h; cases h
      · rfl
    unfold pairOK at hp
    rw [getD_get hi, getD_get hj] at hp
    unfold badB
    rwa [Bool.not_eq_true'] at hp
  · intro h
    unfold ordOK
    rw [List.all_eq_true]
    intro i hi
    have hi := List.mem_range.1 hi
    unfold rowOK
    rw [List.all_eq_true]
    intro j hj
    have hj := List.mem_range.1 hj
    by_cases hij : i < j
    · have := h i j hi hj hij
      unfold badB at this
      unfold pairOK
      rw [getD_get hi, getD_get hj, this]
      simp
    · simp [hij]
theorem range_getD (l : List Int) : (List.range l.length).map (fun i => l.getD i 0) = l := by
  apply List.ext_getElem
  · simp
  · intro i h1 h2
    simp [List.getD_eq_getElem?_getD, List.getElem?_eq_getElem h2]
/-- The numbers below n that are not in o. -/
def restL (n : Nat) (o : List Int) : List Int := (iota n).filter fun x => !o.contains x
theorem restL_nodup (n : Nat) (o : List Int) : (restL n o).Pairwise (fun a b => a ≠ b) :=
  ((iota_lt n).imp (fun h e => by omega)).filter _
theorem restL_mem {n : Nat} {o : List Int} {x : Int} : x ∈ restL n o ↔ (0 ≤ x ∧ x < (n : Int)) ∧ x ∉ o := by
  unfold restL iota
  rw [List.mem_filter, List.mem_map]
  constructor
  · rintro ⟨⟨k, hk, rfl⟩, h⟩
    have := List.mem_range.1 hk
    exact ⟨by omega, by simpa using h⟩
  · rintro ⟨⟨h0, h1⟩, h⟩
    exact ⟨⟨x.toNat, List.mem_range.2 (by omega), by omega⟩, by simpa using h⟩
theorem filter_ne_erase : ∀ (l : List Int) (i : Nat), l.Pairwise (fun a b => a ≠ b) → i < l.length → l.filter (fun x => !(x == l.getD i 0)) = l.eraseIdx i
  | [], _, _, h => absurd h (Nat.not_lt_zero _)
  | a :: l, 0, hp, _ => by
    rw [List.pairwise_cons] at hp
    show (a :: l).filter (fun x => !(x == a)) = l
    rw [List.filter_cons, if_neg (by simp)]
    exact List.filter_eq_self.2 fun x hx => by
      have := hp.1 x hx
      simp only [Bool.not_eq_true', beq_eq_false_iff_ne]
      exact fun e => this e.symm
  | a :: l, i + 1, hp, h => by
    rw [List.pairwise_cons] at hp
    have hil : i < l.length := by simpa using h
    have e : (a :: l).getD (i + 1) 0 = l.getD i 0 := rfl
    rw [e, List.filter_cons, if_pos (by
      have := hp.1 (l.getD i 0) (by rw [getD_get hil]; exact List.getElem_mem hil)
      simp only [Bool.not_eq_true', beq_eq_false_iff_ne]
      exact this), filter_ne_erase l i hp.2 hil]
    rfl
theorem restL_erase {n : Nat} {o : List Int} {i : Nat} (hi : i < (restL n o).length) : restL n (o ++ [(restL n o).getD i 0]) = (restL n o).eraseIdx i := by
  rw [← filter_ne_erase _ i (restL_nodup n o) hi]
  generalize (restL n o).getD i 0 = y
  unfold restL
  rw [List.filter_filter]
  congr 1
  funext x
  simp only [List.mem_append, List.mem_singleton, Bool.decide_or, List.contains_eq_mem]
  by_cases h1 : x ∈ o <;> by_cases h2 : x = y <;> simp [h1, h2]
theorem cons_eraseIdx : ∀ {l : List Int} {i : Nat} (h : i < l.length), (l[i] :: l.eraseIdx i).Perm l
  | [], _, h => absurd h (Nat.not_lt_zero _)
  | a :: l, 0, _ => List.Perm.refl _
  | a :: l, i + 1, h => by
    have hi : i < l.length := by simpa using h
    show (l[i] :: a :: l.eraseIdx i).Perm (a :: l)
    exact (List.Perm.swap a l[i] _).trans ((cons_eraseIdx hi).cons a)
theorem permsL_mem {y : Int} : ∀ (r : Nat) (l p : List Int), l.length = r → p ∈ permsL r l → (y ∈ p ↔ y ∈ l)
  | 0, l, p, hl, hp => by
    have : l = [] := List.length_eq_zero_iff.1 hl
    subst this
    simp only [permsL, List.mem_singleton] at hp
    rw [hp]
  | r + 1, l, p, hl, hp => by
    simp only [permsL, List.mem_flatMap, List.mem_map, List.mem_range] at hp
    obtain ⟨i, hi, q, hq, rfl⟩ := hp
    have ih := permsL_mem (y := y) r (l.eraseIdx i) q (by rw [List.length_eraseIdx, if_pos hi]; omega) hq
    rw [List.mem_cons, ih, getD_get hi]
    have hp : (l[i] :: l.eraseIdx i).Perm l := cons_eraseIdx hi
    rw [← hp.mem_iff, List.mem_cons]
theorem permsL_all {r : Nat} : ∀ {l p : List Int}, p.length = r → p.Perm l → p ∈ permsL r l := by
  induction r with
  | zero =>
    intro l p hl hp
    have : p = [] := List.length_eq_zero_iff.1 hl
    subst this
    simp [permsL]
  | succ r ih =>
    intro l p hl hp
    match p, hl, hp with
    | x :: q, hl, hp =>
      have hx : x ∈ l := hp.mem_iff.1 List.mem_cons_self
      obtain ⟨i, hi, rfl⟩ := List.mem_iff_getElem.1 hx
      have hq : q.Perm (l.eraseIdx i) := by
        have := hp.trans (cons_eraseIdx hi).symm
        exact this.cons_inv
      simp only [permsL, List.mem_flatMap, List.mem_map, List.mem_range]
      exact ⟨i, hi, q, ih (by simpa using hl) hq, by rw [getD_get hi]⟩
structure InvO (l : List Cd) (o : List Int) : Prop where
  good : goodP l o
  shut : ∀ z, z ∈ o → ∀ y, 0 ≤ y → y < (l.length : Int) → y ∉ o → badB l y z = false
theorem openB_mem {l : List Cd} {o : List Int} {k : Nat} (hk : k < l.length) : openB l o k = true ↔ (∀ y, 0 ≤ y → y < (l.length : Int) → badB l y (k : Int) = true → y ∈ o) ∧ (k : Int) ∉ o := by
  unfold openB
  rw [Bool.and_eq_true, List.all_eq_true, Bool.not_eq_true', ← Bool.not_eq_true, List.contains_iff_mem]
  constructor
  · rintro ⟨h1, h2⟩
    refine ⟨fun y h0 hy hb => ?_, h2⟩
    unfold badB at hb
    rw [Bool.and_eq_true, decide_eq_true_eq, Int.toNat_natCast] at hb
    have := h1 y (by
      unfold tabN
      exact List.mem_map.2 ⟨y.toNat, List.mem_filter.2 ⟨List.mem_range.2 (by omega), hb.2⟩, by omega⟩)
    rwa [List.contains_iff_mem] at this
  · rintro ⟨h1, h2⟩
    refine ⟨fun y hy => ?_, h2⟩
    unfold tabN at hy
    obtain ⟨i, hi, rfl⟩ := List.mem_map.1 hy
    obtain ⟨hi, hd⟩ := List.mem_filter.1 hi
    have hi := List.mem_range.1 hi
    rw [List.contains_iff_mem]
    refine h1 _ (by omega) (by omega) ?_
    unfold badB
    rw [Int.toNat_natCast, Int.toNat_natCast, hd, decide_eq_true (by omega)]
    rfl
theorem InvO.next {l : List Cd} {o : List Int} {k : Nat} (h : InvO l o) (hk : k < l.length) (ho : openB l o k = true) : InvO l (o ++ [(k : Int)]) := by
  obtain ⟨h1, h2⟩ := (openB_mem hk).1 ho
  constructor
  · unfold goodP
    rw [List.pairwise_append]
    refine ⟨h.good, List.pairwise_singleton _ _, fun z hz x hx => ?_⟩
    obtain rfl := List.mem_singleton.1 hx
    exact h.shut z hz _ (by omega) (by omega) h2
  · intro z hz y h0 hy hn
    rw [List.mem_append, List.mem_singleton] at hz hn
    rcases hz with hz | rfl
    · exact h.shut z hz y h0 hy (fun c => hn (.inl c))
    · cases hb : badB l y (k : Int)
      · rfl
      · exact absurd (.inl (h1 y h0 hy hb)) hn
theorem flatMap_filter {α β : Type} (q : α → Bool) (f : α → List β) : ∀ l : List α, (l.filter q).flatMap f = l.flatMap fun x => if q x = true then f x else []
  | [] => rfl
  | a :: l => by
    rw [List.filter_cons, List.flatMap_cons]
    split
    · rw [List.flatMap_cons, flatMap_filter q f l]
    · rw [flatMap_filter q f l]; rfl
theorem flatMap_congr' {α β : Type} {f g : α → List β} : ∀ {l : List α}, (∀ x, x ∈ l → f x = g x) → l.flatMap f = l.flatMap g
  | [], _ => rfl
  | a :: l, h => by
    rw [List.flatMap_cons, List.flatMap_cons, h a List.mem_cons_self, flatMap_congr' fun x hx => h x (List.mem_cons_of_mem _ hx)]
theorem dfs_eq (l : List Cd) : ∀ (r : Nat) (o : List Int), (restL l.length o).length = r → InvO l o →
    dfsL l r o = ((permsL r (restL l.length o)).map (fun p => o ++ p)).filter (fun p => decide (goodP l p))
  | 0, o, hr, hi => by
    simp only [dfsL, permsL, List.map_cons, List.append_nil, List.map_nil]
    rw [List.filter_cons, if_pos (decide_eq_true hi.good)]; rfl
  | r + 1, o, hr, hi => by
    simp only [dfsL, permsL]
    rw [List.map_flatMap, List.filter_flatMap]
    have hG : ((List.range (restL l.length o).length).flatMap fun i => (((permsL r ((restL l.length o).eraseIdx i)).map fun p => (restL l.length o).getD i 0 :: p).map (fun p => o ++ p)).filter (fun p => decide (goodP l p))) =
        (restL l.length o).flatMap fun x => ((permsL r (restL l.length (o ++ [x]))).map (fun p => (o ++ [x]) ++ p)).filter (fun p => decide (goodP l p)) := by
      conv => rhs; rw [← range_getD (restL l.length o)]
      rw [List.flatMap_map]
      refine flatMap_congr' fun i hm => ?_
      have hi := List.mem_range.1 hm
      rw [restL_erase hi, List.map_map]
      simp only [List.append_assoc, List.singleton_append, Function.comp_def]
    rw [hG]
    show _ = ((iota l.length).filter fun x => !o.contains x).flatMap _
    rw [flatMap_filter, show iota l.length = (List.range l.length).map fun i : Nat => (i : Int) from rfl, List.flatMap_map]
    refine flatMap_congr' fun k hk => ?_
    have hk := List.mem_range.1 hk
    by_cases hc : (k : Int) ∈ o
    · have h1 : ¬ openB l o k = true := fun h => ((openB_mem hk).1 h).2 hc
      rw [if_neg h1, if_neg (by simp [hc])]
    · rw [if_pos (show (!o.contains (k : Int)) = true by simp [hc])]
      have hmem : (k : Int) ∈ restL l.length o := restL_mem.2 ⟨by omega, hc⟩
      obtain ⟨i, hil, hik⟩ := List.mem_iff_getElem.1 hmem
      have hlen : (restL l.length (o ++ [(k : Int)])).length = r := by
        rw [← hik, ← getD_get hil, restL_erase hil, List.length_eraseIdx, if_pos hil]; omega
      by_cases ho : openB l o k = true
      · rw [if_pos ho]
        exact dfs_eq l r _ hlen (hi.next hk ho)
      · rw [if_neg ho]
        symm
        rw [List.filter_eq_nil_iff]
        intro p hp
        obtain ⟨q, hq, rfl⟩ := List.mem_map.1 hp
        rw [decide_eq_true_eq]
        intro hg
        refine ho ((openB_mem hk).2 ⟨fun y h0 hy hb => ?_, hc⟩)
        by_cases hyo : y ∈ o
        · exact hyo
        · exfalso
          have hyk : y ≠ (k : Int) := by
            rintro rfl
            unfold badB at hb
            rw [Bool.and_eq_true, decide_eq_true_eq] at hb
            omega
          have hyq : y ∈ q := (permsL_mem r _ q hlen hq).2 (restL_mem.2 ⟨⟨h0, hy⟩, by
            rw [List.mem_append, List.mem_singleton]
            rintro (c | c)
            · exact hyo c
            · exact hyk c⟩)
          unfold goodP at hg
          rw [List.pairwise_append] at hg
          have := hg.2.2 (k : Int) (by simp) y hyq
          rw [hb] at this; cases this
theorem restL_nil (n : Nat) : restL n [] = iota n := by
  unfold restL
  exact List.filter_eq_self.2 fun x _ => by simp
theorem dfs_perms (l : List Cd) : dfsL l l.length [] = (permsL l.length (iota l.length)).filter (fun p => ordOK l p p.length) := by
  have h := dfs_eq l l.length [] (by rw [restL_nil, iota_len]) ⟨List.Pairwise.nil, fun z hz => by cases hz⟩
  rw [h, restL_nil]
  have e : ∀ L : List (List Int), L.map (fun p => [] ++ p) = L := fun L => by simp
  rw [e]
  congr 1
  funext p
  exact (ordOK_good l p).symm
theorem permsL_len : ∀ (r : Nat) (l p : List Int), l.length = r → p ∈ permsL r l → p.length = r
  | 0, l, p, hl, hp => by
    simp only [permsL, List.mem_singleton] at hp
    rw [hp]; rfl
  | r + 1, l, p, hl, hp => by
    simp only [permsL, List.mem_flatMap, List.mem_map, List.mem_range] at hp
    obtain ⟨i, hi, q, hq, rfl⟩ := hp
    have := permsL_len r (l.eraseIdx i) q (by rw [List.length_eraseIdx, if_pos hi]; omega) hq
    simp [this]
theorem permO_dfs {l : List Cd} {order : List Int} (h : permO l.length order) (ho : ordOK l order order.length = true) : order ∈ dfsL l l.length [] := by
  rw [dfs_perms, List.mem_filter]
  refine ⟨permsL_all h.1 ?_, ho⟩
  have hp : (sortI order).Perm order := List.mergeSort_perm _ _
  rw [h.2] at hp
  exact hp.symm
/-- The first of the cheapest, and its cost; nothing and -1 if there is none. -/
def bestS (c : List Int → Int) (b : List Int × Int) (o : List Int) : List Int × Int := if b.2 < 0 ∨ c o < b.2 then (o, c o) else b
def bestF (c : List Int → Int) (os : List (List Int)) : List Int × Int := os.foldl (bestS c) ([], -1)
theorem bestF_snoc (c : List Int → Int) (os : List (List Int)) (o : List Int) : bestF c (os ++ [o]) = bestS c (bestF c os) o := by
  unfold bestF; rw [List.foldl_append]; rfl
theorem bestS_fold {c : List Int → Int} (hc : ∀ o, 0 ≤ c o) : ∀ (os : List (List Int)) (b : List Int × Int), 0 ≤ b.2 → 0 ≤ (os.foldl (bestS c) b).2 ∧ (os.foldl (bestS c) b).2 ≤ b.2 ∧ ∀ o, o ∈ os → (os.foldl (bestS c) b).2 ≤ c o
  | [], b, h => ⟨h, Int.le_refl _, fun o ho => by cases ho⟩
  | a :: os, b, h => by
    have hb : 0 ≤ (bestS c b a).2 ∧ (bestS c b a).2 ≤ b.2 ∧ (bestS c b a).2 ≤ c a := by
      unfold bestS
      have := hc a
      split
      · rename_i h1
        refine ⟨this, ?_, Int.le_refl _⟩
        show c a ≤ b.2
        omega
      · rename_i h1; exact ⟨h, Int.le_refl _, by omega⟩
    obtain ⟨h1, h2, h3⟩ := bestS_fold hc os (bestS c b a) hb.1
    refine ⟨h1, Int.le_trans h2 hb.2.1, fun o ho => ?_⟩
    rcases List.mem_cons.1 ho with rfl | ho
    · exact Int.le_trans h2 hb.2.2
    · exact h3 o ho
theorem bestF_le {c : List Int → Int} (hc : ∀ o, 0 ≤ c o) {os : List (List Int)} {o : List Int} (h : o ∈ os) : (bestF c os).2 ≤ c o := by
  match os, h with
  | a :: os, h =>
    have e : bestF c (a :: os) = os.foldl (bestS c) (a, c a) := by
      unfold bestF bestS
      rw [List.foldl_cons, if_pos (.inl (by decide))]
    rw [e]
    obtain ⟨_, h2, h3⟩ := bestS_fold hc os (a, c a) (hc a)
    rcases List.mem_cons.1 h with rfl | h
    · exact h2
    · exact h3 o h
theorem bestF_filter (c : List Int → Int) (q : List Int → Bool) : ∀ (os : List (List Int)) (b : List Int × Int), (os.filter q).foldl (bestS c) b = os.foldl (fun b o => if q o = true then bestS c b o else b) b
  | [], _ => rfl
  | a :: os, b => by
    rw [List.filter_cons, List.foldl_cons]
    split
    · rw [List.foldl_cons, bestF_filter c q os]
    · rw [bestF_filter c q os]
end Go.Proofs.Ytccpjfppkahbmaa
