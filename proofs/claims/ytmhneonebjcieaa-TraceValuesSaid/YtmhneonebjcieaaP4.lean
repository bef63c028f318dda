/- Plain facts on reading a number, byte by byte. No program in sight. -/
import Derived.Test.YtmhneonebjcieaaP3
namespace Go.Proofs.Ytmhneonebjcieaa

/-- What the first k bytes give. -/
def lowF : Nat → List Nat → Nat
  | 0, _ => 0
  | _ + 1, [] => 0
  | k + 1, b :: r => b % 128 + 128 * lowF k r
theorem lowF_lt : ∀ (k : Nat) (r : List Nat), lowF k r < 128 ^ k
  | 0, _ => Nat.zero_lt_one
  | k + 1, [] => Nat.pow_pos (by omega)
  | k + 1, b :: r => by
    have := lowF_lt k r
    rw [Nat.pow_succ]
    show b % 128 + 128 * lowF k r < _
    omega
theorem lowF_succ : ∀ (k : Nat) (r : List Nat), k < r.length → lowF (k + 1) r = lowF k r + r.getD k 0 % 128 * 128 ^ k
  | 0, b :: r, _ => by simp [lowF]
  | k + 1, b :: r, h => by
    have := lowF_succ k r (by simpa using h)
    show b % 128 + 128 * lowF (k + 1) r = b % 128 + 128 * lowF k r + (b :: r).getD (k + 1) 0 % 128 * 128 ^ (k + 1)
    rw [this, Nat.pow_succ, List.getD_cons_succ, Nat.mul_add]
    generalize lowF k r = x
    have e : r.getD k 0 % 128 * (128 ^ k * 128) = 128 * (r.getD k 0 % 128 * 128 ^ k) := by
      rw [← Nat.mul_assoc, Nat.mul_comm]
    omega
theorem scan_hit : ∀ (f k : Nat) (r : List Nat), k < f → k < r.length → (∀ j, j < k → 128 ≤ r.getD j 0) → r.getD k 0 < 128 → scan f r = some (lowF (k + 1) r, decide (r.getD k 0 = 0), r.drop (k + 1))
  | f + 1, 0, b :: r, _, _, _, h => by
    have h : b < 128 := h
    show (if b < 128 then _ else _) = _
    rw [if_pos h]
    have e : lowF (0 + 1) (b :: r) = b := by show b % 128 + 128 * 0 = b; omega
    rw [e]; rfl
  | f + 1, k + 1, b :: r, hf, hk, hb, h => by
    have h0 : 128 ≤ b := hb 0 (by omega)
    have ih := scan_hit f k r (by omega) (by simpa using hk) (fun j hj => by have := hb (j + 1) (by omega); simpa using this) (by simpa using h)
    show (if b < 128 then _ else (scan f r).map _) = _
    rw [if_neg (by omega), ih, Option.map_some]
    rfl
theorem scan_miss : ∀ (f : Nat) (r : List Nat), (∀ j, j < f → j < r.length → 128 ≤ r.getD j 0) → scan f r = none
  | 0, _, _ => rfl
  | f + 1, [], _ => rfl
  | f + 1, b :: r, hb => by
    have h0 : 128 ≤ b := hb 0 (by omega) (by simp)
    have ih := scan_miss f r (fun j hj hl => by have := hb (j + 1) (by omega) (by simpa using hl); simpa using this)
    show (if b < 128 then _ else (scan f r).map _) = _
    rw [if_neg (by omega), ih]
    rfl
theorem take_hit {s : TSt} {k : Nat} (h5 : k < 5) (hk : k < s.rest.length) (hb : ∀ j, j < k → 128 ≤ s.rest.getD j 0) (h : s.rest.getD k 0 < 128) :
    takeN s = lowF (k + 1) s.rest ∧ takeS s = ⟨s.wrong || (decide (0 < k) && decide (s.rest.getD k 0 = 0)), s.rest.drop (k + 1)⟩ := by
  have hs := scan_hit 5 k s.rest h5 hk hb h
  unfold takeN takeS
  rw [hs]
  refine ⟨rfl, ?_⟩
  have : longB s = decide (0 < k) := by
    unfold longB
    rw [decide_eq_decide]
    cases hr : s.rest with
    | nil => rw [hr] at hk; exact absurd hk (Nat.not_lt_zero _)
    | cons b r =>
      rw [hr] at hb h
      cases k with
      | zero => simp at h ⊢; omega
      | succ k => have := hb 0 (by omega); simp at this ⊢; omega
  rw [this]
theorem take_miss {s : TSt} {k : Nat} (hb : ∀ j, j < k → 128 ≤ s.rest.getD j 0) (h : k = 5 ∨ k = s.rest.length) :
    takeN s = 0 ∧ takeS s = ⟨true, s.rest⟩ := by
  have hs := scan_miss 5 s.rest (fun j h1 h2 => hb j (by omega))
  unfold takeN takeS
  rw [hs]
  exact ⟨rfl, rfl⟩
end Go.Proofs.Ytmhneonebjcieaa
