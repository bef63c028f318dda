/- Plain arithmetic of words: congruences, masks, sums, powers. No program in sight. -/
import Derived.WalkKit
namespace Go.Proofs.YtodkfjdifchibaaDoor
open Go.RowKit

/-- Two numbers that are one modulo m. -/
def Cg (m a b : Int) : Prop := a % m = b % m
theorem Cg.rfl {m a : Int} : Cg m a a := Eq.refl _
theorem Cg.sym {m a b : Int} (h : Cg m a b) : Cg m b a := Eq.symm h
theorem Cg.tr {m a b c : Int} (h : Cg m a b) (g : Cg m b c) : Cg m a c := Eq.trans h g
theorem Cg.add {m a b c d : Int} (h : Cg m a b) (g : Cg m c d) : Cg m (a + c) (b + d) := by
  unfold Cg at *; rw [Int.add_emod, h, g, ← Int.add_emod]
theorem Cg.mul {m a b c d : Int} (h : Cg m a b) (g : Cg m c d) : Cg m (a * c) (b * d) := by
  unfold Cg at *; rw [Int.mul_emod, h, g, ← Int.mul_emod]
theorem Cg.mod {m M a : Int} (h : m ∣ M) : Cg m (a % M) a := Int.emod_emod_of_dvd a h
theorem Cg.of {a b m : Int} (h : a = b) : Cg m a b := by rw [h]; exact Cg.rfl

theorem pow_nat (k : Nat) : ((2 ^ k : Nat) : Int) = (2 : Int) ^ k := by simp
theorem pow_dvd32 (n : Int) (h2 : n ≤ 32) : (2 : Int) ^ n.toNat ∣ 4294967296 := by
  have h : n.toNat ≤ 32 := by omega
  have := Nat.pow_dvd_pow 2 h
  rw [← pow_nat]; exact Int.ofNat_dvd.2 this
theorem pow_dvd64 (n : Int) (h2 : n ≤ 32) : (2 : Int) ^ n.toNat ∣ 18446744073709551616 :=
  Int.dvd_trans (pow_dvd32 n h2) ⟨4294967296, by decide⟩

theorem and_u32_nat (a b : Nat) (ha : a < 4294967296) (hb : b < 4294967296) : bits .and .u32 (a : Int) (b : Int) = ((a &&& b : Nat) : Int) := by
  have hx : a &&& b < 2 ^ 32 := Nat.and_lt_two_pow _ (by omega)
  have h1 : (BitVec.ofInt 32 (a : Int)).toNat = a := by
    rw [BitVec.ofInt_natCast, BitVec.toNat_ofNat]; exact Nat.mod_eq_of_lt (by omega)
  have h2 : (BitVec.ofInt 32 (b : Int)).toNat = b := by
    rw [BitVec.ofInt_natCast, BitVec.toNat_ofNat]; exact Nat.mod_eq_of_lt (by omega)
  show IntKind.u32.wrap ((BitVec.ofInt 32 (a : Int) &&& BitVec.ofInt 32 (b : Int)).toNat : Int) = _
  rw [BitVec.toNat_and, h1, h2]
  simp only [IntKind.wrap, IntKind.signed, IntKind.bits, Bool.false_and, Bool.false_eq_true, if_false]
  omega

/-- A word and a mask: modulo a power of two. -/
theorem and_mask (X n : Int) (h0 : 0 ≤ X) (h1 : X < 4294967296) (n1 : 0 ≤ n) (n2 : n ≤ 32) : bits .and .u32 X (2 ^ n.toNat - 1) = X % 2 ^ n.toNat := by
  obtain ⟨x, rfl⟩ := Int.eq_ofNat_of_zero_le h0
  have hk : n.toNat ≤ 32 := by omega
  have hp : 0 < 2 ^ n.toNat := Nat.pow_pos (by decide)
  have hq : 2 ^ n.toNat ≤ 2 ^ 32 := Nat.pow_le_pow_right (by decide) hk
  have e : (2 : Int) ^ n.toNat - 1 = ((2 ^ n.toNat - 1 : Nat) : Int) := by rw [← pow_nat]; omega
  rw [e, and_u32_nat x _ (by omega) (by omega), Nat.and_two_pow_sub_one_eq_mod, ← pow_nat]
  omega

/-- The pairs below n. -/
def pairs (n : Int) : Int := if n % 2 = 1 then (n - 1) / 2 * n else n / 2 * (n - 1)
theorem pairs_two (n : Int) : 2 * pairs n = n * (n - 1) := by
  unfold pairs
  split
  · rename_i h
    have e : n - 1 = 2 * ((n - 1) / 2) := by omega
    generalize (n - 1) / 2 = q at *
    rw [e, Int.mul_left_comm n, Int.mul_comm q n]
  · rename_i h
    have e : n = 2 * (n / 2) := by omega
    generalize n / 2 = q at *
    rw [e, Int.mul_assoc]
theorem pairs_succ (n : Int) : pairs (n + 1) = pairs n + n := by
  have a := pairs_two n
  have b := pairs_two (n + 1)
  have e : (n + 1) * (n + 1 - 1) = n * (n - 1) + 2 * n := by
    rw [show n + 1 - 1 = n by omega, Int.add_mul, Int.mul_sub]; omega
  omega
theorem pairs_nonneg (n : Int) (h : 0 ≤ n) : 0 ≤ pairs n := by
  unfold pairs
  split
  · exact Int.mul_nonneg (by omega) h
  · by_cases g : n = 0
    · subst g; decide
    · exact Int.mul_nonneg (by omega) (by omega)
end Go.Proofs.YtodkfjdifchibaaDoor
