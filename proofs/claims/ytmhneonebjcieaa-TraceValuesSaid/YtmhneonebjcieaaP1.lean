/- Plain facts on tables of places: which are right, their order, what covers an address. No program in sight. -/
import Derived.WalkKit
namespace Go.Proofs.Ytmhneonebjcieaa

/-- A place. -/
structure Pl where
  fr : Int
  to : Int
  va : Int
  ki : Int
  nn : Int
theorem Pl.ext' {p q : Pl} (h1 : p.fr = q.fr) (h2 : p.to = q.to) (h3 : p.va = q.va) (h4 : p.ki = q.ki) (h5 : p.nn = q.nn) : p = q := by
  cases p; cases q; simp_all
instance : DecidableEq Pl := fun p q =>
  if h : p.fr = q.fr ∧ p.to = q.to ∧ p.va = q.va ∧ p.ki = q.ki ∧ p.nn = q.nn then .isTrue (Pl.ext' h.1 h.2.1 h.2.2.1 h.2.2.2.1 h.2.2.2.2)
  else .isFalse fun e => h ⟨by rw [e], by rw [e], by rw [e], by rw [e], by rw [e]⟩
def noPl : Pl := ⟨0, 0, 0, 0, 0⟩
def limK (k : Int) : Int := if k = 0 then 31 else if k = 1 then 32764 else 4294967295
def isPl (p : Pl) : Bool := decide (0 ≤ p.fr) && decide (p.fr < p.to) && decide (p.to ≤ 32768) && decide (0 ≤ p.va) && decide (p.va ≤ 63) && decide (0 ≤ p.ki) && decide (p.ki ≤ 2) && decide (0 ≤ p.nn) && decide (p.nn ≤ limK p.ki)
structure Good (p : Pl) : Prop where
  f0 : 0 ≤ p.fr
  ft : p.fr < p.to
  t1 : p.to ≤ 32768
  v0 : 0 ≤ p.va
  v1 : p.va ≤ 63
  k0 : 0 ≤ p.ki
  k1 : p.ki ≤ 2
  n0 : 0 ≤ p.nn
  n1 : p.nn ≤ limK p.ki
theorem isPl_iff {p : Pl} : isPl p = true ↔ Good p := by
  unfold isPl
  simp only [Bool.and_eq_true, decide_eq_true_iff]
  constructor
  · rintro ⟨⟨⟨⟨⟨⟨⟨⟨a, b⟩, c⟩, d⟩, e⟩, f⟩, g⟩, h⟩, i⟩
    exact ⟨a, b, c, d, e, f, g, h, i⟩
  · rintro ⟨a, b, c, d, e, f, g, h, i⟩
    exact ⟨⟨⟨⟨⟨⟨⟨⟨a, b⟩, c⟩, d⟩, e⟩, f⟩, g⟩, h⟩, i⟩
theorem limK_le (k : Int) : limK k ≤ 4294967295 := by
  unfold limK
  split
  · omega
  · split <;> omega

/-- One number before another, else as told. -/
def cmp1 (a b : Int) : Int := if a < b then -1 else if b < a then 1 else 0
theorem cmp1_eq {a b : Int} : cmp1 a b = 0 ↔ a = b := by
  unfold cmp1
  split
  · constructor <;> intro h <;> omega
  · split
    · constructor <;> intro h <;> omega
    · constructor <;> intro h <;> omega
theorem cmp1_bd (a b : Int) : -1 ≤ cmp1 a b ∧ cmp1 a b ≤ 1 := by
  unfold cmp1
  split
  · omega
  · split <;> omega
def orI (a b : Int) : Int := if a = 0 then b else a
def cmpP (p q : Pl) : Int := orI (cmp1 p.fr q.fr) (orI (cmp1 p.to q.to) (orI (cmp1 p.va q.va) (orI (cmp1 p.ki q.ki) (cmp1 p.nn q.nn))))
def ltP (p q : Pl) : Bool := decide (cmpP p q < 0)
theorem cmpP_iff {p q : Pl} : cmpP p q < 0 ↔ (p.fr < q.fr ∨ p.fr = q.fr ∧ (p.to < q.to ∨ p.to = q.to ∧ (p.va < q.va ∨ p.va = q.va ∧ (p.ki < q.ki ∨ p.ki = q.ki ∧ p.nn < q.nn)))) := by
  unfold cmpP orI cmp1
  repeat' split
  all_goals omega
theorem cmpP_pos {p q : Pl} : 0 < cmpP p q ↔ (q.fr < p.fr ∨ p.fr = q.fr ∧ (q.to < p.to ∨ p.to = q.to ∧ (q.va < p.va ∨ p.va = q.va ∧ (q.ki < p.ki ∨ p.ki = q.ki ∧ q.nn < p.nn)))) := by
  unfold cmpP orI cmp1
  repeat' split
  all_goals omega
theorem cmpP_bd (p q : Pl) : -1 ≤ cmpP p q ∧ cmpP p q ≤ 1 := by
  unfold cmpP orI
  have := cmp1_bd p.fr q.fr
  have := cmp1_bd p.to q.to
  have := cmp1_bd p.va q.va
  have := cmp1_bd p.ki q.ki
  have := cmp1_bd p.nn q.nn
  repeat' split
  all_goals omega
theorem ltP_iff {p q : Pl} : ltP p q = true ↔ (p.fr < q.fr ∨ p.fr = q.fr ∧ (p.to < q.to ∨ p.to = q.to ∧ (p.va < q.va ∨ p.va = q.va ∧ (p.ki < q.ki ∨ p.ki = q.ki ∧ p.nn < q.nn)))) := by
  unfold ltP
  rw [decide_eq_true_iff]
  exact cmpP_iff
theorem ltP_irrefl (p : Pl) : ltP p p = false := by
  cases h : ltP p p
  · rfl
  · rw [ltP_iff] at h; omega
theorem ltP_trans {p q r : Pl} (h : ltP p q = true) (k : ltP q r = true) : ltP p r = true := by
  rw [ltP_iff] at *; omega
theorem ltP_total {p q : Pl} (h : ltP p q = false) (k : ltP q p = false) : p = q := by
  have h : ¬ _ := fun e => Bool.false_ne_true (h.symm.trans (ltP_iff.2 e))
  have k : ¬ _ := fun e => Bool.false_ne_true (k.symm.trans (ltP_iff.2 e))
  apply Pl.ext' <;> omega

/-- Two places clash. -/
def clash (x y : Pl) : Bool := decide (x.va = y.va) && (decide (x.fr < y.to) && decide (y.fr < x.to))
def at' (l : List Pl) (k : Nat) : Pl := l.getD k noPl
def badAt (l : List Pl) (i : Nat) : Bool := !isPl (at' l i) || (decide (0 < i) && !ltP (at' l (i - 1)) (at' l i))
def hitAt (l : List Pl) (i : Nat) : Bool := (l.take i).any (clash (at' l i))
def anyTo (n : Nat) (f : Nat → Bool) : Bool := (List.range n).any f
theorem anyTo_zero (f : Nat → Bool) : anyTo 0 f = false := rfl
theorem anyTo_succ (n : Nat) (f : Nat → Bool) : anyTo (n + 1) f = (anyTo n f || f n) := by
  unfold anyTo
  rw [List.range_succ, List.any_append]; simp
theorem anyTo_true {n : Nat} {f : Nat → Bool} : anyTo n f = true ↔ ∃ i, i < n ∧ f i = true := by
  unfold anyTo
  rw [List.any_eq_true]
  constructor
  · rintro ⟨i, h1, h2⟩; exact ⟨i, List.mem_range.1 h1, h2⟩
  · rintro ⟨i, h1, h2⟩; exact ⟨i, List.mem_range.2 h1, h2⟩
theorem anyTo_false {n : Nat} {f : Nat → Bool} : anyTo n f = false ↔ ∀ i, i < n → f i = false := by
  constructor
  · intro h i hi
    cases hf : f i
    · rfl
    · rw [anyTo_true.2 ⟨i, hi, hf⟩] at h; cases h
  · intro h
    cases hf : anyTo n f
    · rfl
    · obtain ⟨i, hi, e⟩ := anyTo_true.1 hf
      rw [h i hi] at e; cases e
/-- The first error of a table. -/
def valE (l : List Pl) : Int := if 64 < l.length then 3 else if anyTo l.length (badAt l) then 1 else if anyTo l.length (hitAt l) then 7 else 0
structure Table (l : List Pl) : Prop where
  len : l.length ≤ 64
  good : ∀ i, i < l.length → Good (at' l i)
  asc : ∀ i, i + 1 < l.length → ltP (at' l i) (at' l (i + 1)) = true
  free : ∀ i k, i < l.length → k < i → clash (at' l i) (at' l k) = false
theorem at_take {l : List Pl} {i k : Nat} (h : k < i) : at' (l.take i) k = at' l k := by
  unfold at'
  rw [List.getD_eq_getElem?_getD, List.getD_eq_getElem?_getD, List.getElem?_take, if_pos h]
theorem any_at {l : List Pl} {f : Pl → Bool} : l.any f = anyTo l.length fun k => f (at' l k) := by
  rw [Bool.eq_iff_iff, anyTo_true, List.any_eq_true]
  constructor
  · rintro ⟨x, hx, hf⟩
    obtain ⟨i, hi, rfl⟩ := List.getElem_of_mem hx
    exact ⟨i, hi, by unfold at'; rw [List.getD_eq_getElem?_getD, List.getElem?_eq_getElem hi]; exact hf⟩
  · rintro ⟨i, hi, hf⟩
    refine ⟨l[i], List.getElem_mem hi, ?_⟩
    unfold at' at hf
    rw [List.getD_eq_getElem?_getD, List.getElem?_eq_getElem hi] at hf
    exact hf
theorem at_mem {l : List Pl} {i : Nat} (h : i < l.length) : at' l i ∈ l := by
  unfold at'
  rw [List.getD_eq_getElem?_getD, List.getElem?_eq_getElem h]
  exact List.getElem_mem h
theorem valE_zero {l : List Pl} : valE l = 0 ↔ Table l := by
  unfold valE
  constructor
  · intro h
    split at h
    · omega
    · split at h
      · omega
      · split at h
        · omega
        · rename_i h1 h2 h3
          have h2 := anyTo_false.1 (Bool.eq_false_iff.2 h2)
          have h3 := anyTo_false.1 (Bool.eq_false_iff.2 h3)
          refine ⟨by omega, fun i hi => ?_, fun i hi => ?_, fun i k hi hk => ?_⟩
          · have := h2 i hi
            unfold badAt at this
            rw [Bool.or_eq_false_iff, Bool.not_eq_false'] at this
            exact isPl_iff.1 this.1
          · have := h2 (i + 1) hi
            unfold badAt at this
            rw [Bool.or_eq_false_iff, decide_eq_true (Nat.succ_pos i), Bool.true_and, Bool.not_eq_false'] at this
            simpa using this.2
          · have := h3 i hi
            unfold hitAt at this
            rw [any_at] at this
            have := anyTo_false.1 this k (by rw [List.length_take]; omega)
            rw [at_take hk] at this
            exact this
  · intro h
    rw [if_neg (by have := h.len; omega), if_neg, if_neg]
    · rw [Bool.not_eq_true]
      refine anyTo_false.2 fun i hi => ?_
      unfold hitAt
      rw [any_at]
      refine anyTo_false.2 fun k hk => ?_
      rw [List.length_take] at hk
      rw [at_take (by omega)]
      exact h.free i k hi (by omega)
    · rw [Bool.not_eq_true]
      refine anyTo_false.2 fun i hi => ?_
      unfold badAt
      rw [isPl_iff.2 (h.good i hi)]
      cases i with
      | zero => rfl
      | succ i => rw [Nat.add_sub_cancel, h.asc i hi]; simp
theorem Table.mem {l : List Pl} (h : Table l) {p : Pl} (hp : p ∈ l) : Good p := by
  obtain ⟨i, hi, rfl⟩ := List.getElem_of_mem hp
  have := h.good i hi
  unfold at' at this
  rw [List.getD_eq_getElem?_getD, List.getElem?_eq_getElem hi] at this
  exact this

/-- The place of a variable that covers an address. -/
def covers (v a : Int) (p : Pl) : Bool := decide (p.va = v) && (decide (p.fr ≤ a) && decide (a < p.to))
def findP (l : List Pl) (v a : Int) : Option Pl := l.find? (covers v a)
def within (n lo hi : Int) : Bool := decide (lo ≤ n) && decide (n ≤ hi)
end Go.Proofs.Ytmhneonebjcieaa
