/- The search for a model, plainly: each step as a function of lists; 'none' where a step would leave a range. -/
import Derived.WalkKit
import Derived.Laws.FloatArith
namespace Go.Proofs.Ytahaoddilejpnaa

/-- What the search keeps. -/
structure SS where
  cl : List (List Int)
  ln : List (List Int)
  wt : List (List Int)
  vl : List Int
  lv : List Int
  rs : List Int
  tr : List Int
  lm : List Int
  nx : Nat
  wg : List Nat
  ri : Nat
  ph : List Int
  deriving DecidableEq

def atI (l : List Int) (k : Nat) : Int := l.getD k 0
def atL (l : List (List Int)) (k : Nat) : List Int := l.getD k []
/-- Lengths below which all rows stay. -/
def most : Nat := 1000000
/-- The variable of a literal. -/
def vOf (l : Int) : Nat := l.natAbs
def absI (l : Int) : Int := max l (-l)
theorem absI_nat (l : Int) : absI l = (vOf l : Int) := by unfold absI vOf; omega
def plcI (l : Int) : Int := if l > 0 then 2 * l else -2 * l + 1
def small (l : Int) : Bool := decide (-1000000 ≤ l) && decide (l ≤ 1000000)
/-- The truth of a literal. -/
def ofF (s : SS) (l : Int) : Option Int :=
  if vOf l < s.vl.length ∧ small l = true ∧ small (atI s.vl (vOf l)) = true then some (if l > 0 then atI s.vl (vOf l) else - atI s.vl (vOf l)) else none
/-- The literal l is made true. -/
def tellF (s : SS) (l r : Int) : Option SS :=
  if vOf l < s.vl.length ∧ vOf l < s.lv.length ∧ vOf l < s.rs.length ∧ small l = true ∧ s.tr.length < most ∧ s.lm.length < most then
    some { s with vl := s.vl.set (vOf l) (if l < 0 then -1 else 1), lv := s.lv.set (vOf l) s.lm.length, rs := s.rs.set (vOf l) r, tr := s.tr ++ [l] }
  else none
/-- The literal at the place i of the clause k is watched. -/
def watchF (s : SS) (k i : Nat) : Option SS :=
  let l := atI (atL s.cl k) i
  let p := (plcI l).toNat
  if k < s.cl.length ∧ i < (atL s.cl k).length ∧ small l = true ∧ p < s.wt.length ∧ (atL s.wt p).length < most then
    some { s with wt := s.wt.set p (atL s.wt p ++ [(k : Int)]) }
  else none
/-- A clause of two literals at least comes in. -/
def pushF (s : SS) (k : List Int) : Option SS :=
  if s.cl.length < most then
    (watchF { s with cl := s.cl ++ [k] } s.cl.length 0).bind fun a => watchF a s.cl.length 1
  else none
def addF (s : SS) (k : List Int) : Option (SS × Bool) :=
  match k with
  | [] => some (s, false)
  | [l] => (ofF s l).bind fun t => if t < 0 then some (s, false) else if t = 0 then (tellF s l (-1)).map fun a => (a, true) else some (s, true)
  | _ => (pushF s k).map fun a => (a, true)
def swapI (c : List Int) (i j : Nat) : List Int := (c.set i (atI c j)).set j (atI c i)
/-- The first place from j on at which a literal is not false; 'none': a literal is out of range; otherwise its place, or the clause's length. -/
def seekF (s : SS) (c : List Int) : Nat → Nat → Option Nat
  | 0, j => if c.length ≤ j then some c.length else none
  | f + 1, j => if j < c.length then (ofF s (atI c j)).bind fun t => if t ≥ 0 then some j else seekF s c f (j + 1) else some c.length
/-- What a look at a watched clause comes to. -/
inductive Vis where
  | keep (s : SS)
  | gone (s : SS)
  | bad (s : SS)
def visitF (s : SS) (wrong : Int) (k : Nat) : Option Vis :=
  let c0 := atL s.cl k
  if k < s.cl.length ∧ 2 ≤ c0.length then
    let c := if atI c0 0 = wrong then swapI c0 0 1 else c0
    let s1 := { s with cl := s.cl.set k c }
    (ofF s1 (atI c 0)).bind fun t =>
      if t > 0 then some (.keep s1) else
        (seekF s1 c c.length 2).bind fun j =>
          if j < c.length then (watchF { s1 with cl := s1.cl.set k (swapI c 1 j) } k 1).map .gone
          else if t < 0 then some (.bad s1) else (tellF s1 (atI c 0) k).map .keep
  else none
/-- All watched clauses of a literal, in turn: the state, what is kept, and the clause that is false (or -1). -/
def sweepF (wrong : Int) : List Int → SS → List Int → Option (SS × List Int × Int)
  | [], s, kept => some (s, kept, -1)
  | k :: rest, s, kept =>
    if 0 ≤ k ∧ kept.length < most then
      (visitF s wrong k.toNat).bind fun v => match v with
        | .keep a => sweepF wrong rest a (kept ++ [k])
        | .gone a => sweepF wrong rest a kept
        | .bad a => some (a, kept ++ [k] ++ rest, k)
    else none
/-- What follows is told; a clause that is false, or -1. -/
def propF : Nat → SS → Option (SS × Int)
  | 0, _ => none
  | f + 1, s =>
    if s.nx < s.tr.length then
      let wrong := - atI s.tr s.nx
      let s1 := { s with nx := s.nx + 1 }
      let p := (plcI wrong).toNat
      if small wrong = true ∧ p < s1.wt.length ∧ (atL s1.wt p).length < most ∧ s.nx < most then
        (sweepF wrong (atL s1.wt p) s1 []).bind fun r =>
          let s2 := { r.1 with wt := r.1.wt.set p r.2.1 }
          if p < r.1.wt.length then (if r.2.2 = -1 then propF f s2 else some (s2, r.2.2)) else none
      else none
    else some (s, -1)
/-- The clause that not all decisions were right, the last one first. -/
def decF (s : SS) : Option (List Int × Int) :=
  if s.lm.length < most ∧ ∀ a ∈ s.lm, 0 ≤ a ∧ a < s.tr.length then
    if ∀ a ∈ s.lm, small (atI s.tr a.toNat) = true then some ((s.lm.reverse.map fun a => - atI s.tr a.toNat), (s.lm.length : Int) - 1) else none
  else none
/-- The values behind a place of the trail are taken back. -/
def freeF : List Int → SS → Option SS
  | [], s => some s
  | l :: rest, s =>
    let v := vOf l
    if small l = true ∧ v < s.vl.length ∧ v < s.ph.length ∧ v < s.rs.length then
      freeF rest { s with ph := s.ph.set v (atI s.vl v), vl := s.vl.set v 0, rs := s.rs.set v (-1) }
    else none
def backF (s : SS) (level : Int) : Option SS :=
  if level ≥ s.lm.length then (if s.lm.length < most then some s else none) else
    if 0 ≤ level ∧ s.lm.length < most ∧ s.tr.length < most ∧ 0 < s.tr.length then
      let n := atI s.lm level.toNat
      if 0 ≤ n ∧ n ≤ s.tr.length then
        (freeF (s.tr.drop n.toNat) s).map fun a => { a with tr := s.tr.take n.toNat, lm := s.lm.take level.toNat, nx := min s.nx n.toNat }
      else none
    else none
/-- Whether a number is greater than another one, by their bits. -/
def gtB (a b : Nat) : Bool := FloatKind.f64.format.order a b == some .gt
/-- The best variable: from v on. -/
def bestF (s : SS) : Nat → Nat → Nat → Option Nat
  | 0, v, best => if s.vl.length ≤ v then some best else none
  | f + 1, v, best =>
    if v < s.vl.length then
      if v < s.wg.length ∧ best < s.wg.length then
        bestF s f (v + 1) (if atI s.vl v = 0 ∧ (best = 0 ∨ gtB (s.wg.getD v 0) (s.wg.getD best 0) = true) then v else best)
      else none
    else some best
def chooseF (s : SS) : Option (SS × Bool) :=
  if s.vl.length < most then
    (bestF s s.vl.length 1 0).bind fun b =>
      if b = 0 then some (s, false) else
        if b < s.ph.length ∧ small (atI s.ph b) = true ∧ small (b * atI s.ph b) = true ∧ s.lm.length < most ∧ s.tr.length < most then
          (tellF { s with lm := s.lm ++ [(s.tr.length : Int)] } (b * atI s.ph b) (-1)).map fun a => (a, true)
        else none
  else none
/-- A clause that was learned comes in, and its first literal is told. -/
def takeF (s : SS) (k : List Int) : Option SS :=
  if s.ln.length < most ∧ k.length < most then
    let s1 := { s with ln := s.ln ++ [k] }
    match k with
    | [] => none
    | [l] => tellF s1 l (-1)
    | l :: _ => (pushF s1 k).bind fun a => tellF a l s1.cl.length
  else none
def learnF (s : SS) (_k : Int) : Option (List Int × Int) := if s.vl.length ≤ 11 then decF s else none
/-- The search; how it ends: 0 won, 1 lost, 2 too many. -/
def runF : Nat → SS → Int → Int → Option (SS × Int)
  | 0, _, _, _ => none
  | f + 1, s, pat, wai =>
    (propF (s.vl.length + 1) s).bind fun r =>
      if r.2 < 0 then
        if wai ≥ pat ∧ 11 < r.1.vl.length then
          if 0 ≤ pat ∧ pat < most then (backF r.1 0).bind fun a => runF f a (pat + pat / 5) 0 else none
        else (chooseF r.1).bind fun a => if a.2 = true then runF f a.1 pat wai else some (a.1, 0)
      else if r.1.lm.length = 0 then some (r.1, 1)
      else if 3000 ≤ r.1.ln.length then some (r.1, 2)
      else
        (learnF r.1 r.2).bind fun c => (backF r.1 c.2).bind fun a => (takeF a c.1).bind fun b =>
          (floatBits .mul .f64 b.ri 4607407598781385933).bind fun x =>
            if 0 ≤ wai ∧ wai < most then runF f { b with ri := x } pat (wai + 1) else none
def newF (n : Nat) : SS :=
  { cl := [], ln := [], wt := List.replicate (2 * n + 2) [], vl := List.replicate (n + 1) 0, lv := List.replicate (n + 1) 0, rs := List.replicate (n + 1) (-1), tr := [], lm := [], nx := 0, wg := List.replicate (n + 1) 0, ri := 4607182418800017408, ph := List.replicate (n + 1) (-1) }
/-- All clauses come in; the boolean: whether none contradicts. -/
def addsF : List (List Int) → SS → Option (SS × Bool)
  | [], s => some (s, true)
  | k :: rest, s => (addF s k).bind fun r => if r.2 = true then addsF rest r.1 else some (r.1, false)
end Go.Proofs.Ytahaoddilejpnaa
