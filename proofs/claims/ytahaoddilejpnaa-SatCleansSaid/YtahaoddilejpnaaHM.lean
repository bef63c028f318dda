/- The number of models, plainly. -/
import Derived.Test.YtahaoddilejpnaaHA
import Derived.Laws.BitsLemmas
import Derived.IntWalk
namespace Go.Proofs.Ytahaoddilejpnaa
open Go.RowKit

def bitsM (n b : Nat) : List Bool := (List.range n).map fun i => b.testBit i
theorem bitsM_len (n b : Nat) : (bitsM n b).length = n := by simp [bitsM]
theorem bitsM_get {n b i : Nat} (h : i < n) : (bitsM n b).getD i false = b.testBit i := by
  simp [bitsM, List.getD_eq_getElem?_getD, h]
theorem litT_bits {n b : Nat} {l : Int} (h : litB n l = true) : litT (bitsM n b) l = (b.testBit (l.natAbs - 1) == decide (0 < l)) := by
  have := lit_bds h
  unfold litT
  rw [bitsM_get (by omega)]
def cntTo (n : Nat) (g : List (List Int)) (m : Nat) : Nat := ((List.range m).filter fun b => holdsB g (bitsM n b)).length
theorem cntTo_succ (n : Nat) (g : List (List Int)) (m : Nat) : cntTo n g (m + 1) = cntTo n g m + if holdsB g (bitsM n m) then 1 else 0 := by
  unfold cntTo
  rw [List.range_succ, List.filter_append, List.length_append]
  by_cases h : holdsB g (bitsM n m) <;> simp [h]
theorem cntTo_le (n : Nat) (g : List (List Int)) (m : Nat) : cntTo n g m ≤ m := by
  unfold cntTo
  exact Nat.le_trans (List.length_filter_le _ _) (by simp)
def modE (n : Int) (g : List (List Int)) : Int := if validE n g = 0 then (if n ≤ 12 then 0 else 3) else validE n g
def modN (n : Int) (g : List (List Int)) : Nat := if validE n g = 0 then (if n ≤ 12 then cntTo n.toNat g (2 ^ n.toNat) else 0) else 0
theorem bit_div (b i : Nat) : (b.testBit i = true ↔ b / 2 ^ i % 2 = 1) := by
  rw [Nat.testBit_eq_decide_div_mod_eq]; simp
theorem wraps63 (n : Int) (h₀ : 0 ≤ n) (h₁ : n < 2 ^ 63) : IntKind.i64.wrap n = n := IntWalk.i64_in _ (by omega)
theorem and1 (m : Nat) (h : m < 9223372036854775808) : Go.bits .and .i64 (m : Int) 1 = ((m % 2 : Nat) : Int) := by
  have := bits_mask .i64 63 (by decide) wraps63 1 (by decide) (m : Int) (by omega) (by omega)
  rw [show (1 : Int) = 2 ^ 1 - 1 by decide, this]; omega
theorem bit_up (b i : Nat) (hb : b < 9223372036854775808) : (Go.bits .and .i64 ((b : Int) / 2 ^ i) 1 == 1) = b.testBit i := by
  have e : (b : Int) / 2 ^ i = ((b / 2 ^ i : Nat) : Int) := by simp
  have hlt : b / 2 ^ i < 9223372036854775808 := Nat.lt_of_le_of_lt (Nat.div_le_self _ _) hb
  rw [e, and1 _ hlt, Nat.testBit_eq_decide_div_mod_eq]
  generalize b / 2 ^ i = c
  rcases Nat.mod_two_eq_zero_or_one c with h | h <;> simp [h]
theorem bit_down (b i : Nat) (hb : b < 9223372036854775808) : (Go.bits .and .i64 ((b : Int) / 2 ^ i) 1 == 0) = !b.testBit i := by
  have e : (b : Int) / 2 ^ i = ((b / 2 ^ i : Nat) : Int) := by simp
  have hlt : b / 2 ^ i < 9223372036854775808 := Nat.lt_of_le_of_lt (Nat.div_le_self _ _) hb
  rw [e, and1 _ hlt, Nat.testBit_eq_decide_div_mod_eq]
  generalize b / 2 ^ i = c
  rcases Nat.mod_two_eq_zero_or_one c with h | h <;> simp [h]
end Go.Proofs.Ytahaoddilejpnaa
