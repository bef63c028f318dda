/- Neutral code, plainly: which fields an operation has, which instructions are right, what one reads and writes. No program in sight. -/
import Derived.WalkKit
namespace Go.Proofs.Ytjfpaelmcepidaa.PK

/-- An instruction of neutral code. -/
structure Cd where
  op : Int
  d : Int
  a : Int
  b : Int
  im : Nat
  to : Int
theorem Cd.ext' {p q : Cd} (h1 : p.op = q.op) (h2 : p.d = q.d) (h3 : p.a = q.a) (h4 : p.b = q.b) (h5 : p.im = q.im) (h6 : p.to = q.to) : p = q := by
  cases p; cases q; simp_all
instance : DecidableEq Cd := fun p q =>
  if h : p.op = q.op ∧ p.d = q.d ∧ p.a = q.a ∧ p.b = q.b ∧ p.im = q.im ∧ p.to = q.to then .isTrue (Cd.ext' h.1 h.2.1 h.2.2.1 h.2.2.2.1 h.2.2.2.2.1 h.2.2.2.2.2)
  else .isFalse fun e => h ⟨by rw [e], by rw [e], by rw [e], by rw [e], by rw [e], by rw [e]⟩
def noCd : Cd := ⟨0, 0, 0, 0, 0, 0⟩
instance : Inhabited Cd := ⟨noCd⟩
def atC (l : List Cd) (k : Nat) : Cd := l.getD k noCd
theorem atC_get {l : List Cd} {k : Nat} (h : k < l.length) : atC l k = l[k] := by
  unfold atC
  rw [List.getD_eq_getElem?_getD, List.getElem?_eq_getElem h]; rfl
theorem atC_mem {l : List Cd} {k : Nat} (h : k < l.length) : atC l k ∈ l := by
  rw [atC_get h]; exact List.getElem_mem h
theorem mem_atC {l : List Cd} {x : Cd} (h : x ∈ l) : ∃ k, k < l.length ∧ atC l k = x := by
  obtain ⟨k, hk, rfl⟩ := List.mem_iff_getElem.1 h
  exact ⟨k, hk, atC_get hk⟩
theorem take_atC {l : List Cd} {k : Nat} (h : k < l.length) : l.take (k + 1) = l.take k ++ [atC l k] := by
  rw [List.take_succ_eq_append_getElem h, atC_get h]
theorem atC_take {l : List Cd} {i k : Nat} (h : k < i) : atC (l.take i) k = atC l k := by
  unfold atC
  rw [List.getD_eq_getElem?_getD, List.getD_eq_getElem?_getD, List.getElem?_take, if_pos h]
theorem atC_app {l m : List Cd} {k : Nat} (h : k < l.length) : atC (l ++ m) k = atC l k := by
  unfold atC
  rw [List.getD_eq_getElem?_getD, List.getD_eq_getElem?_getD, List.getElem?_append_left h]

/-- Which fields an operation has. -/
def fD (op : Int) : Bool := decide (0 ≤ op ∧ op ≤ 20)
def fA (op : Int) : Bool := decide (1 ≤ op ∧ op ≤ 23 ∨ op = 25)
def fB (op : Int) : Bool := decide (2 ≤ op ∧ op ≤ 17 ∨ 21 ≤ op ∧ op ≤ 23)
def fI (op : Int) : Bool := decide (op = 0 ∨ 18 ≤ op ∧ op ≤ 23)
def fT (op : Int) : Bool := decide (op = 24 ∨ op = 25)
def fM (op : Int) : Bool := decide (18 ≤ op ∧ op ≤ 23)
def fO (op : Int) : Bool := decide (0 ≤ op ∧ op ≤ 27)
/-- A field is right. -/
def wi (n : Int) (asked : Bool) (lo hi : Int) : Bool := if asked then decide (lo ≤ n) && decide (n < hi) else decide (n = 0)
def lowA (op : Int) : Int := if fM op then -1 else 0
def isCodeB (x : Cd) (regs blocks : Int) : Bool :=
  fO x.op && (wi x.d (fD x.op) 0 regs && (wi x.a (fA x.op) (lowA x.op) regs && (wi x.b (fB x.op) 0 regs && (wi x.to (fT x.op) 0 blocks && (fI x.op || decide (x.im = 0))))))
def isLastB (op : Int) : Bool := decide (op = 24 ∨ op = 26 ∨ op = 27)
/-- The registers that an instruction reads, in ascending order. -/
def usesL (x : Cd) : List Int :=
  if fA x.op && decide (0 ≤ x.a) then
    if fB x.op && !decide (x.b = x.a) then (if x.b < x.a then [x.b, x.a] else [x.a, x.b]) else [x.a]
  else if fB x.op then [x.b] else []
theorem usesL_len (x : Cd) : (usesL x).length ≤ 2 := by
  unfold usesL
  repeat' split
  all_goals simp
end Go.Proofs.Ytjfpaelmcepidaa.PK
