/- The machine that runs neutral code, plainly. No program in sight but for the model's bit operations. -/
import Derived.Test.YtjfpaelmcepidaaK1
import Derived.Laws.Closers25b
namespace Go.Proofs.Ytjfpaelmcepidaa.PK
open Go.RowKit

/-- What an operation makes of two words. -/
def resF (op a b : Int) : Int :=
  if op = 2 then (a + b) % 4294967296 else if op = 3 then (a - b) % 4294967296 else if op = 4 then a * b % 4294967296
  else if op = 5 then a / b else if op = 6 then a % b
  else if op = 7 then wrap32 ((wrap32 a).tdiv (wrap32 b)) % 4294967296 else if op = 8 then (wrap32 a).tmod (wrap32 b) % 4294967296
  else if op = 9 then bits .and .u32 a b else if op = 10 then bits .or .u32 a b else if op = 11 then bits .xor .u32 a b
  else if op = 12 then a * 2 ^ (b % 32).toNat % 4294967296 else if op = 13 then a / 2 ^ (b % 32).toNat else if op = 14 then wrap32 a / 2 ^ (b % 32).toNat % 4294967296
  else if op = 15 then (if wrap32 a < wrap32 b then 1 else 0) else if op = 16 then (if a < b then 1 else 0) else if a = b then 1 else 0
/-- A word. -/
def isW (a : Int) : Prop := 0 ≤ a ∧ a < 4294967296
theorem mod_w (a : Int) : isW (a % 4294967296) := ⟨Int.emod_nonneg _ (by decide), Int.emod_lt_of_pos _ (by decide)⟩
theorem div_w {a b : Int} (ha : isW a) (hb : 0 ≤ b) : isW (a / b) := by
  have h1 := ha.1; have h2 := ha.2
  constructor
  · exact Int.ediv_nonneg h1 hb
  · exact Int.lt_of_le_of_lt (Int.ediv_le_self b h1) h2
theorem ite_w {c : Prop} [Decidable c] {a b : Int} (h1 : isW a) (h2 : isW b) : isW (if c then a else b) := by
  split
  · exact h1
  · exact h2
theorem rem_w {a b : Int} (ha : isW a) (hb : isW b) : isW (a % b) := by
  by_cases h0 : b = 0
  · subst h0; rw [Int.emod_zero]; exact ha
  · have h1 := hb.1; have h2 := hb.2
    exact ⟨Int.emod_nonneg _ h0, Int.lt_trans (Int.emod_lt_of_pos _ (by omega)) h2⟩
theorem bits_w (op : BinOp) (a b : Int) : isW (bits op .u32 a b) := ⟨bits_lo_u32 _ _ _, by have := bits_hi_u32 op a b; omega⟩
theorem one_w : isW 1 := ⟨by decide, by decide⟩
theorem zero_w : isW 0 := ⟨by decide, by decide⟩
theorem resF_w {op a b : Int} (ha : isW a) (hb : isW b) : isW (resF op a b) := by
  have hp : (0 : Int) ≤ 2 ^ (b % 32).toNat := Int.pow_nonneg (by decide)
  unfold resF
  exact ite_w (mod_w _) (ite_w (mod_w _) (ite_w (mod_w _) (ite_w (div_w ha hb.1) (ite_w (rem_w ha hb) (ite_w (mod_w _) (ite_w (mod_w _) (ite_w (bits_w _ _ _) (ite_w (bits_w _ _ _) (ite_w (bits_w _ _ _) (ite_w (mod_w _) (ite_w (div_w ha hp) (ite_w (mod_w _) (ite_w (ite_w one_w zero_w) (ite_w (ite_w one_w zero_w) (ite_w one_w zero_w)))))))))))))))
/-- Nothing is promised of an operation. -/
def brkF (op a b : Int) : Bool :=
  if op = 5 ∨ op = 6 then decide (b = 0) else if op = 7 ∨ op = 8 then decide (b = 0) || (decide (a = 2147483648) && decide (b = 4294967295)) else false
theorem brkF_no {op a b : Int} (h : brkF op a b = false) (ho : 5 ≤ op ∧ op ≤ 8) : b ≠ 0 := by
  unfold brkF at h
  intro hb
  subst hb
  have hc : op = 5 ∨ op = 6 ∨ op = 7 ∨ op = 8 := by omega
  rcases hc with rfl | rfl | rfl | rfl <;> simp at h
/-- How many bytes. -/
def nB (op : Int) : Nat := if op = 18 ∨ op = 21 then 1 else if op = 19 ∨ op = 22 then 2 else 4
/-- The first d bytes, from the highest one down. -/
def rdD (mem : List Int) (at0 many : Nat) : Nat → Int
  | 0 => 0
  | d + 1 => bits .or .u32 (rdD mem at0 many d * 256 % 4294967296) (mem.getD (at0 + (many - (d + 1))) 0)
def rdF (mem : List Int) (at0 many : Nat) : Int := rdD mem at0 many many
theorem rdD_w (mem : List Int) (at0 many : Nat) : ∀ d, isW (rdD mem at0 many d)
  | 0 => zero_w
  | d + 1 => ⟨bits_lo_u32 _ _ _, by
    have := bits_hi_u32 .or (rdD mem at0 many d * 256 % 4294967296) (mem.getD (at0 + (many - (d + 1))) 0)
    show bits _ _ _ _ < _
    omega⟩
/-- The first i bytes written. -/
def wrD (mem : List Int) (at0 : Nat) (n : Int) : Nat → List Int
  | 0 => mem
  | i + 1 => (wrD mem at0 n i).set (at0 + i) (n / 2 ^ (8 * i) % 256)
def wrF (mem : List Int) (at0 many : Nat) (n : Int) : List Int := wrD mem at0 n many
theorem wrD_len (mem : List Int) (at0 : Nat) (n : Int) : ∀ i, (wrD mem at0 n i).length = mem.length
  | 0 => rfl
  | i + 1 => by
    show (List.set _ _ _).length = _
    rw [List.length_set, wrD_len mem at0 n i]
/-- A byte. -/
def isB (a : Int) : Prop := 0 ≤ a ∧ a < 256
theorem wrD_b {mem : List Int} {at0 : Nat} {n : Int} (h : ∀ x ∈ mem, isB x) : ∀ i, ∀ x ∈ wrD mem at0 n i, isB x
  | 0 => h
  | i + 1 => fun x hx => by
    rcases List.mem_or_eq_of_mem_set hx with h1 | rfl
    · exact wrD_b h i x h1
    · exact ⟨Int.emod_nonneg _ (by decide), Int.emod_lt_of_pos _ (by decide)⟩
/-- A machine: its registers, its memory, where it is, and whether something was touched. -/
structure Mach where
  rg : List Int
  mem : List Int
  blk : Nat
  pc : Nat
  tch : Bool
def opA (s : Mach) (x : Cd) : Int := if fA x.op = true ∧ 0 ≤ x.a then s.rg.getD x.a.toNat 0 else 0
def opB (s : Mach) (x : Cd) : Int := if fB x.op = true then s.rg.getD x.b.toNat 0 else 0
def plc (s : Mach) (x : Cd) : Nat := ((opA s x + x.im) % 4294967296).toNat
def tchB (s : Mach) (x : Cd) (fr to : Int) : Bool := s.tch || (decide ((plc s x : Int) < to) && decide (fr < (plc s x : Int) + nB x.op))
/-- How a run ends. -/
inductive Run where
  | on (s : Mach)
  | out (mem : List Int) (e : Int) (n : Nat) (t : Bool)
def putR (s : Mach) (d : Int) (v : Int) : Mach := { s with rg := s.rg.set d.toNat v, pc := s.pc + 1 }
/-- One instruction; n have been run before. -/
def stepM (s : Mach) (x : Cd) (fr to : Int) (n : Nat) : Run :=
  if fM x.op = true then
    if s.mem.length < plc s x + nB x.op then .out s.mem 3 n (tchB s x fr to)
    else if 21 ≤ x.op then .on { s with mem := wrF s.mem (plc s x) (nB x.op) (opB s x), pc := s.pc + 1, tch := tchB s x fr to }
    else .on { s with rg := s.rg.set x.d.toNat (rdF s.mem (plc s x) (nB x.op)), pc := s.pc + 1, tch := tchB s x fr to }
  else if x.op = 0 then .on (putR s x.d x.im)
  else if x.op = 1 then .on (putR s x.d (opA s x))
  else if x.op ≤ 17 then if brkF x.op (opA s x) (opB s x) = true then .out s.mem 5 n s.tch else .on (putR s x.d (resF x.op (opA s x) (opB s x)))
  else if x.op = 24 ∨ (x.op = 25 ∧ opA s x ≠ 0) then .on { s with blk := x.to.toNat, pc := 0 }
  else if x.op = 26 then .out s.mem 1 (n + 1) s.tch
  else if x.op = 27 then .out s.mem 2 (n + 1) s.tch
  else .on { s with pc := s.pc + 1 }
end Go.Proofs.Ytjfpaelmcepidaa.PK
