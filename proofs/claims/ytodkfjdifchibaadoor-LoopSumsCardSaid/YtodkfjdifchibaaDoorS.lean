/- After how many steps a count ends: from stretches to predicates. -/
import Derived.Test.YtodkfjdifchibaaDoorW5
namespace Go.Proofs.YtodkfjdifchibaaDoor
open Go.RowKit

def goesB (p n s t b k : Int) : Bool := cmpV p n (afterV n s t k) b
def TripsSpec (p n s t b r : Int) (ok : Bool) : Prop :=
  (ok = true ∧ 0 ≤ r ∧ r < 2 ^ n.toNat ∧ goesB p n s t b r = false ∧ ∀ k, 0 ≤ k → goesB p n s t b k = false → r ≤ k) ∨
  (ok = false ∧ r = 0 ∧ ∀ k, 0 ≤ k → goesB p n s t b k = true)

theorem trips_of_until {p n s t b s' lo hi r : Int} {em ok : Bool} (hs : UntilSpec (2 ^ n.toNat) s' t lo hi em r ok)
    (h : ∀ k, 0 ≤ k → (goesB p n s t b k = false ↔ em = false ∧ lo ≤ (s' + k * t) % 2 ^ n.toNat ∧ (s' + k * t) % 2 ^ n.toNat ≤ hi)) : TripsSpec p n s t b r ok := by
  rcases hs with ⟨rfl, he, h1, h2, h3⟩ | ⟨rfl, rfl, h3⟩
  · exact .inl ⟨rfl, h1.1, h2, (h r h1.1).2 ⟨he, h1.2⟩, fun k k0 hk => h3 k ⟨k0, ((h k k0).1 hk).2⟩⟩
  · refine .inr ⟨rfl, rfl, fun k k0 => ?_⟩
    rw [← Bool.not_eq_false]
    intro c
    obtain ⟨c1, c2⟩ := (h k k0).1 c
    rcases h3 with h3 | h3
    · rw [c1] at h3; cases h3
    · exact h3 k ⟨k0, c2⟩

theorem pow_half (n : Int) (h1 : 1 ≤ n) : (2 : Int) ^ n.toNat = 2 * 2 ^ (n.toNat - 1) := by
  rw [show n.toNat = (n.toNat - 1) + 1 by omega, Int.pow_succ]; simp [Int.mul_comm]
/-- With half of all words added, signed words are ordered as words. -/
theorem sgn_shift (n x : Int) (h1 : 1 ≤ n) (x0 : 0 ≤ x) (x1 : x < 2 ^ n.toNat) : (x + 2 ^ (n.toNat - 1)) % 2 ^ n.toNat = sgn n x + 2 ^ (n.toNat - 1) := by
  have e := pow_half n h1
  have p0 : (1 : Int) ≤ 2 ^ (n.toNat - 1) := by
    have : 0 < 2 ^ (n.toNat - 1) := Nat.pow_pos (by decide)
    rw [← pow_nat]; omega
  unfold sgn
  generalize (2 : Int) ^ (n.toNat - 1) = H at *
  rw [e] at x1 ⊢
  split
  · rw [show x + H = x - 2 * H + H + 2 * H by omega, Int.add_emod_right]
    exact Int.emod_eq_of_lt (by omega) (by omega)
  · exact Int.emod_eq_of_lt (by omega) (by omega)

theorem cmp_shift (p a b h : Int) (hp : 6 ≤ p) (hp9 : p ≤ 9) : cmpI p a b = cmpI (p - 4) (a + h) (b + h) := by
  have : p = 6 ∨ p = 7 ∨ p = 8 ∨ p = 9 := by omega
  rcases this with rfl | rfl | rfl | rfl <;> simp [cmpI]

/-- What is added, and the predicate of words. -/
def offP (p n : Int) : Int := if 6 ≤ p then 2 ^ (n.toNat - 1) else 0
def predP (p : Int) : Int := if 6 ≤ p then p - 4 else p

theorem goes_word (p n s t b k : Int) (_hp : 2 ≤ p) (hp9 : p ≤ 9) (h1 : 1 ≤ n) (b0 : 0 ≤ b) (b1 : b < 2 ^ n.toNat) :
    goesB p n s t b k = cmpI (predP p) (((s + offP p n) % 2 ^ n.toNat + k * t) % 2 ^ n.toNat) ((b + offP p n) % 2 ^ n.toNat) := by
  have pp : (2 : Int) ^ n.toNat ≠ 0 := by omega
  unfold goesB cmpV offP predP
  by_cases h6 : 6 ≤ p
  · rw [if_pos h6, if_pos h6, if_pos h6, cmp_shift p _ _ (2 ^ (n.toNat - 1)) h6 hp9]
    have a0 : 0 ≤ afterV n s t k := Int.emod_nonneg _ pp
    have a1 : afterV n s t k < 2 ^ n.toNat := Int.emod_lt_of_pos _ (by omega)
    rw [← sgn_shift n b h1 b0 b1, ← sgn_shift n _ h1 a0 a1]
    congr 1
    unfold afterV
    refine ((Cg.mod (Int.dvd_refl _)).add Cg.rfl).tr ((Cg.of ?_).tr ((Cg.mod (Int.dvd_refl _)).sym.add Cg.rfl))
    omega
  · rw [if_neg h6, if_neg h6, if_neg h6, Int.add_zero, Int.add_zero, Int.emod_eq_of_lt b0 b1]
    congr 1
    exact (Cg.mod (Int.dvd_refl _)).sym.add Cg.rfl

theorem trips_ord {p n s t b lo hi r : Int} {em ok : Bool} (hp : 2 ≤ p) (hp9 : p ≤ 9) (h1 : 1 ≤ n) (b0 : 0 ≤ b) (b1 : b < 2 ^ n.toNat)
    (ho : (predP p = 2 ∧ lo = (b + offP p n) % 2 ^ n.toNat ∧ hi = 2 ^ n.toNat - 1 ∧ em = false) ∨
      (predP p = 3 ∧ lo = (b + offP p n) % 2 ^ n.toNat + 1 ∧ hi = 2 ^ n.toNat - 1 ∧ em = ((b + offP p n) % 2 ^ n.toNat == 2 ^ n.toNat - 1)) ∨
      (predP p = 4 ∧ lo = 0 ∧ hi = (b + offP p n) % 2 ^ n.toNat ∧ em = false) ∨
      (predP p = 5 ∧ lo = 0 ∧ hi = IntKind.u64.wrap ((b + offP p n) % 2 ^ n.toNat - 1) ∧ em = ((b + offP p n) % 2 ^ n.toNat == 0)))
    (hb : (2 : Int) ^ n.toNat ≤ 4294967296)
    (hs : UntilSpec (2 ^ n.toNat) ((s + offP p n) % 2 ^ n.toNat) t lo hi em r ok) : TripsSpec p n s t b r ok := by
  refine trips_of_until hs fun k _ => ?_
  rw [goes_word p n s t b k hp hp9 h1 b0 b1]
  have u0 := Int.emod_nonneg ((s + offP p n) % 2 ^ n.toNat + k * t) (show (2 : Int) ^ n.toNat ≠ 0 by omega)
  have u1 := Int.emod_lt_of_pos ((s + offP p n) % 2 ^ n.toNat + k * t) (show 0 < (2 : Int) ^ n.toNat by omega)
  have v0 := Int.emod_nonneg (b + offP p n) (show (2 : Int) ^ n.toNat ≠ 0 by omega)
  have v1 := Int.emod_lt_of_pos (b + offP p n) (show 0 < (2 : Int) ^ n.toNat by omega)
  generalize ((s + offP p n) % 2 ^ n.toNat + k * t) % 2 ^ n.toNat = u at *
  generalize (b + offP p n) % 2 ^ n.toNat = v at *
  generalize (2 : Int) ^ n.toNat = M at *
  rcases ho with ⟨e, rfl, rfl, rfl⟩ | ⟨e, rfl, rfl, rfl⟩ | ⟨e, rfl, rfl, rfl⟩ | ⟨e, rfl, rfl, rfl⟩ <;> rw [e]
  · simp [cmpI]; omega
  · simp [cmpI]; omega
  · simp [cmpI]; omega
  · simp only [IntKind.wrap_u64]; simp [cmpI]; omega
theorem until_pre_ord {p n s t b lo hi : Int} {em : Bool} (t0 : 0 ≤ t) (t1 : t < 2 ^ n.toNat)
    (ho : (predP p = 2 ∧ lo = (b + offP p n) % 2 ^ n.toNat ∧ hi = 2 ^ n.toNat - 1 ∧ em = false) ∨
      (predP p = 3 ∧ lo = (b + offP p n) % 2 ^ n.toNat + 1 ∧ hi = 2 ^ n.toNat - 1 ∧ em = ((b + offP p n) % 2 ^ n.toNat == 2 ^ n.toNat - 1)) ∨
      (predP p = 4 ∧ lo = 0 ∧ hi = (b + offP p n) % 2 ^ n.toNat ∧ em = false) ∨
      (predP p = 5 ∧ lo = 0 ∧ hi = IntKind.u64.wrap ((b + offP p n) % 2 ^ n.toNat - 1) ∧ em = ((b + offP p n) % 2 ^ n.toNat == 0)))
    (hb : (2 : Int) ^ n.toNat ≤ 4294967296) : UntilPre (2 ^ n.toNat) ((s + offP p n) % 2 ^ n.toNat) t lo hi em := by
  have u0 := Int.emod_nonneg (s + offP p n) (show (2 : Int) ^ n.toNat ≠ 0 by omega)
  have u1 := Int.emod_lt_of_pos (s + offP p n) (show 0 < (2 : Int) ^ n.toNat by omega)
  have v0 := Int.emod_nonneg (b + offP p n) (show (2 : Int) ^ n.toNat ≠ 0 by omega)
  have v1 := Int.emod_lt_of_pos (b + offP p n) (show 0 < (2 : Int) ^ n.toNat by omega)
  generalize (s + offP p n) % 2 ^ n.toNat = u at *
  generalize (b + offP p n) % 2 ^ n.toNat = v at *
  generalize (2 : Int) ^ n.toNat = M at *
  refine ⟨u0, u1, t0, t1, hb, ?_⟩
  rcases ho with ⟨e, rfl, rfl, rfl⟩ | ⟨e, rfl, rfl, rfl⟩ | ⟨e, rfl, rfl, rfl⟩ | ⟨e, rfl, rfl, rfl⟩
  · intro _; omega
  · intro g; have : v ≠ M - 1 := by simpa using g
    omega
  · intro _; omega
  · intro g; have : v ≠ 0 := by simpa using g
    simp only [IntKind.wrap_u64]; omega
theorem trips_ne {n s t b r : Int} {ok : Bool}
    (hs : UntilSpec (2 ^ n.toNat) s t b b false r ok) : TripsSpec 1 n s t b r ok := by
  refine trips_of_until hs fun k _ => ?_
  unfold goesB cmpV afterV
  simp [cmpI]
  omega
theorem trips_eq {n s t b : Int} (h1 : 1 ≤ n) (s0 : 0 ≤ s) (s1 : s < 2 ^ n.toNat) (t0 : 0 ≤ t) (t1 : t < 2 ^ n.toNat) (he : s = b) :
    TripsSpec 0 n s t b (min t 1) (t != 0) := by
  subst he
  have e := pow_half n h1
  have p0 : (1 : Int) ≤ 2 ^ (n.toNat - 1) := by
    have : 0 < 2 ^ (n.toNat - 1) := Nat.pow_pos (by decide)
    rw [← pow_nat]; omega
  have g : ∀ k, goesB 0 n s t s k = ((s + k * t) % 2 ^ n.toNat == s) := fun k => by
    unfold goesB cmpV afterV; rw [if_neg (by decide)]; simp [cmpI]
  have g0 : goesB 0 n s t s 0 = true := by rw [g]; simp; exact Int.emod_eq_of_lt s0 s1
  by_cases ht : t = 0
  · subst ht
    refine .inr ⟨rfl, rfl, fun k _ => ?_⟩
    rw [g]; simp; exact Int.emod_eq_of_lt s0 s1
  · refine .inl ⟨by simpa using ht, by omega, by omega, ?_, fun k k0 hk => ?_⟩
    · rw [show min t 1 = 1 by omega, g, Int.one_mul]
      have : (s + t) % 2 ^ n.toNat = if s + t < 2 ^ n.toNat then s + t else s + t - 2 ^ n.toNat := by
        split
        · exact Int.emod_eq_of_lt (by omega) (by omega)
        · rw [← Int.emod_eq_of_lt (show 0 ≤ s + t - 2 ^ n.toNat by omega) (show s + t - 2 ^ n.toNat < 2 ^ n.toNat by omega), Int.sub_emod_right]
      rw [this]
      split <;> simp <;> omega
    · have : k ≠ 0 := by rintro rfl; rw [g0] at hk; cases hk
      omega
theorem trips_eq0 {n s t b : Int} (s0 : 0 ≤ s) (s1 : s < 2 ^ n.toNat) (he : s ≠ b) : TripsSpec 0 n s t b 0 true := by
  refine .inl ⟨rfl, by omega, by omega, ?_, fun k k0 _ => k0⟩
  unfold goesB cmpV afterV; rw [if_neg (by decide)]; simp [cmpI]
  rw [Int.emod_eq_of_lt s0 s1]; exact he
theorem trips_unique {p n s t b r k : Int} {c d : Bool} (h : TripsSpec p n s t b r c) (g : TripsSpec p n s t b k d) : r = k ∧ c = d := by
  rcases h with ⟨rfl, h0, h1, h2, h3⟩ | ⟨rfl, rfl, h3⟩ <;> rcases g with ⟨rfl, g0, g1, g2, g3⟩ | ⟨rfl, rfl, g3⟩
  · exact ⟨Int.le_antisymm (h3 _ g0 g2) (g3 _ h0 h2), rfl⟩
  · rw [g3 _ h0] at h2; cases h2
  · rw [h3 _ g0] at g2; cases g2
  · exact ⟨rfl, rfl⟩
end Go.Proofs.YtodkfjdifchibaaDoor
