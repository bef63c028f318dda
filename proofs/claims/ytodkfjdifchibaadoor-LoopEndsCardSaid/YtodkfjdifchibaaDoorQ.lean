/- The smallest multiple that lies, modulo m, in a stretch: plain arithmetic. -/
import Derived.WalkKit
namespace Go.Proofs.YtodkfjdifchibaaDoor

def Hit (a m lo hi n : Int) : Prop := 0 ≤ n ∧ lo ≤ n * a % m ∧ n * a % m ≤ hi
def FirstSpec (a m lo hi n : Int) (ok : Bool) : Prop :=
  (ok = true ∧ Hit a m lo hi n ∧ n < m ∧ ∀ k, Hit a m lo hi k → n ≤ k) ∨ (ok = false ∧ n = 0 ∧ ∀ k, ¬ Hit a m lo hi k)
/-- What first asks of its arguments. -/
def FirstPre (a m lo hi : Int) : Prop := 0 ≤ a ∧ a < m ∧ 1 ≤ lo ∧ lo ≤ hi ∧ hi < m ∧ m ≤ 4294967296

theorem first_zero {m lo hi : Int} (h : FirstPre 0 m lo hi) : FirstSpec 0 m lo hi 0 false := by
  obtain ⟨h1, h2, h3, h4, h5, h6⟩ := h
  refine .inr ⟨rfl, rfl, fun k hk => ?_⟩
  have := hk.2.1
  rw [Int.mul_zero, Int.zero_emod] at this
  omega

/-- Division, told: x = a q + r. -/
theorem div_form (x a : Int) (ha : 0 < a) : x = a * (x / a) + x % a ∧ 0 ≤ x % a ∧ x % a < a :=
  ⟨(Int.mul_ediv_add_emod x a).symm, Int.emod_nonneg _ (by omega), Int.emod_lt_of_pos _ ha⟩
theorem ceil_form (x a : Int) (ha : 0 < a) (hx : 0 ≤ x) : x ≤ (x + a - 1) / a * a ∧ (x + a - 1) / a * a ≤ x + a - 1 ∧ 0 ≤ (x + a - 1) / a := by
  obtain ⟨h1, h2, h3⟩ := div_form (x + a - 1) a ha
  rw [Int.mul_comm a] at h1
  exact ⟨by omega, by omega, Int.ediv_nonneg (by omega) (by omega)⟩
/-- The least multiple from x on. -/
theorem ceil_le (x a k : Int) (ha : 0 < a) (h : x ≤ k * a) : (x + a - 1) / a ≤ k := by
  have : (x + a - 1) / a < k + 1 := Int.ediv_lt_of_lt_mul ha (by rw [Int.add_mul]; omega)
  omega

theorem first_near {a m lo hi : Int} (h : FirstPre a m lo hi) (ha : 0 < a) (hn : (lo + a - 1) / a * a ≤ hi) : FirstSpec a m lo hi ((lo + a - 1) / a) true := by
  obtain ⟨h1, h2, h3, h4, h5, h6⟩ := h
  obtain ⟨c1, c2, c3⟩ := ceil_form lo a ha (by omega)
  have e : (lo + a - 1) / a * a % m = (lo + a - 1) / a * a := Int.emod_eq_of_lt (by omega) (by omega)
  refine .inl ⟨rfl, ⟨c3, by rw [e]; exact c1, by rw [e]; exact hn⟩, ?_, fun k hk => ?_⟩
  · have : (lo + a - 1) / a * 1 ≤ (lo + a - 1) / a * a := Int.mul_le_mul_of_nonneg_left (by omega) c3
    omega
  · by_cases g : k * a < lo
    · exfalso
      have k0 : 0 ≤ k * a := Int.mul_nonneg hk.1 (by omega)
      have := hk.2.1
      rw [Int.emod_eq_of_lt k0 (by omega)] at this
      omega
    · exact ceil_le lo a k ha (by omega)

/-- No multiple of a lies in the stretch: both ends lie between the same two. -/
theorem far_form {a m lo hi : Int} (h : FirstPre a m lo hi) (ha : 0 < a) (hn : ¬ (lo + a - 1) / a * a ≤ hi) :
    lo / a = hi / a ∧ 1 ≤ lo % a ∧ lo % a ≤ hi % a ∧ hi % a < a := by
  obtain ⟨h1, h2, h3, h4, h5, h6⟩ := h
  obtain ⟨l1, l2, l3⟩ := div_form lo a ha
  obtain ⟨g1, g2, g3⟩ := div_form hi a ha
  have p : lo % a ≠ 0 := by
    intro e
    have : (lo + a - 1) / a ≤ lo / a := ceil_le lo a _ ha (by rw [Int.mul_comm]; omega)
    have : (lo + a - 1) / a * a ≤ lo / a * a := Int.mul_le_mul_of_nonneg_right this (by omega)
    rw [Int.mul_comm (lo / a)] at this
    omega
  have q : lo / a = hi / a := by
    have a1 : lo / a ≤ hi / a := Int.ediv_le_ediv ha h4
    have a2 : ¬ lo / a < hi / a := by
      intro g
      have : (lo + a - 1) / a ≤ hi / a := ceil_le lo a _ ha (by
        have : (lo / a + 1) * a ≤ hi / a * a := Int.mul_le_mul_of_nonneg_right (by omega) (by omega)
        rw [Int.add_mul, Int.mul_comm (lo / a)] at this
        omega)
      have : (lo + a - 1) / a * a ≤ hi / a * a := Int.mul_le_mul_of_nonneg_right this (by omega)
      rw [Int.mul_comm (hi / a)] at this
      omega
    omega
  rw [q] at l1
  exact ⟨q, by omega, by omega, g3⟩
theorem far_pre {a m lo hi : Int} (h : FirstPre a m lo hi) (ha : 0 < a) (hn : ¬ (lo + a - 1) / a * a ≤ hi) :
    FirstPre (m % a) a ((a - hi % a) % a) ((a - lo % a) % a) ∧ (a - hi % a) % a = a - hi % a ∧ (a - lo % a) % a = a - lo % a := by
  obtain ⟨f1, f2, f3, f4⟩ := far_form h ha hn
  obtain ⟨h1, h2, h3, h4, h5, h6⟩ := h
  have e1 : (a - hi % a) % a = a - hi % a := Int.emod_eq_of_lt (by omega) (by omega)
  have e2 : (a - lo % a) % a = a - lo % a := Int.emod_eq_of_lt (by omega) (by omega)
  have m1 := Int.emod_nonneg m (show a ≠ 0 by omega)
  have m2 := Int.emod_lt_of_pos m ha
  rw [e1, e2]
  exact ⟨⟨m1, m2, by omega, by omega, by omega, by omega⟩, rfl, rfl⟩

theorem mod_mul (t m a : Int) : t * (m % a) % a = m * t % a := by
  rw [Int.mul_emod, Int.emod_emod_of_dvd m (Int.dvd_refl a), ← Int.mul_emod, Int.mul_comm]

/-- A hit's passes of m are a hit of the smaller question. -/
theorem far_down {a m lo hi k : Int} (h : FirstPre a m lo hi) (ha : 0 < a) (hn : ¬ (lo + a - 1) / a * a ≤ hi) (hk : Hit a m lo hi k) :
    Hit (m % a) a ((a - hi % a) % a) ((a - lo % a) % a) (k * a / m) ∧ m * (k * a / m) + lo ≤ k * a := by
  obtain ⟨f1, f2, f3, f4⟩ := far_form h ha hn
  obtain ⟨_, e1, e2⟩ := far_pre h ha hn
  obtain ⟨h1, h2, h3, h4, h5, h6⟩ := h
  obtain ⟨k0, k1, k2⟩ := hk
  obtain ⟨d1, d2, d3⟩ := div_form (k * a) m (by omega)
  obtain ⟨l1, l2, l3⟩ := div_form lo a ha
  obtain ⟨g1, g2, g3⟩ := div_form hi a ha
  have t0 : 0 ≤ k * a / m := Int.ediv_nonneg (Int.mul_nonneg k0 (by omega)) (by omega)
  refine ⟨⟨t0, ?_⟩, by omega⟩
  rw [mod_mul, e1, e2]
  -- m t = k a - v, v = q a + s
  generalize hv : k * a % m = v at *
  generalize ht : k * a / m = t at *
  have hs : m * t % a = a - (v - a * (lo / a)) := by
    have e : m * t = a - (v - a * (lo / a)) + a * (k - lo / a - 1) := by
      rw [Int.mul_sub, Int.mul_sub, Int.mul_one, Int.mul_comm a k]; omega
    rw [e, Int.add_mul_emod_self_left]
    rw [f1] at l1 ⊢
    exact Int.emod_eq_of_lt (by omega) (by omega)
  rw [hs]
  rw [f1] at l1 ⊢
  omega

/-- A hit of the smaller question gives one. -/
theorem far_up {a m lo hi t : Int} (h : FirstPre a m lo hi) (ha : 0 < a) (hn : ¬ (lo + a - 1) / a * a ≤ hi)
    (ht : Hit (m % a) a ((a - hi % a) % a) ((a - lo % a) % a) t) :
    ∃ v, lo ≤ v ∧ v ≤ hi ∧ (lo + m * t + a - 1) / a * a = m * t + v := by
  obtain ⟨f1, f2, f3, f4⟩ := far_form h ha hn
  obtain ⟨_, e1, e2⟩ := far_pre h ha hn
  obtain ⟨h1, h2, h3, h4, h5, h6⟩ := h
  obtain ⟨t0, t1, t2⟩ := ht
  rw [mod_mul, e1] at t1
  rw [mod_mul, e2] at t2
  obtain ⟨l1, l2, l3⟩ := div_form lo a ha
  obtain ⟨g1, g2, g3⟩ := div_form hi a ha
  obtain ⟨d1, d2, d3⟩ := div_form (m * t) a ha
  rw [f1] at l1
  have mt0 : 0 ≤ m * t := Int.mul_nonneg (by omega) t0
  -- the multiple is a (u + 1 + q)
  refine ⟨a * (hi / a) + (a - m * t % a), by omega, by omega, ?_⟩
  have e : m * t + (a * (hi / a) + (a - m * t % a)) = (m * t / a + 1 + hi / a) * a := by
    rw [Int.add_mul, Int.add_mul, Int.one_mul, Int.mul_comm (m * t / a), Int.mul_comm (hi / a)]; omega
  rw [e]
  congr 1
  apply Int.le_antisymm
  · exact ceil_le _ a _ ha (by rw [← e]; omega)
  · -- below it there is none
    obtain ⟨c1, c2, c3⟩ := ceil_form (lo + m * t) a ha (by omega)
    generalize (lo + m * t + a - 1) / a = n at *
    have : ¬ n < m * t / a + 1 + hi / a := by
      intro g
      have g2 : (n + 1) * a ≤ (m * t / a + 1 + hi / a) * a := Int.mul_le_mul_of_nonneg_right (by omega) (by omega)
      rw [← e, Int.add_mul, Int.one_mul] at g2
      omega
    omega

theorem first_far_none {a m lo hi n : Int} (h : FirstPre a m lo hi) (ha : 0 < a) (hn : ¬ (lo + a - 1) / a * a ≤ hi)
    (hs : FirstSpec (m % a) a ((a - hi % a) % a) ((a - lo % a) % a) n false) : FirstSpec a m lo hi 0 false := by
  rcases hs with ⟨c, _⟩ | ⟨_, _, hs⟩
  · cases c
  · exact .inr ⟨rfl, rfl, fun k hk => hs _ (far_down h ha hn hk).1⟩
theorem first_far_some {a m lo hi t : Int} (h : FirstPre a m lo hi) (ha : 0 < a) (hn : ¬ (lo + a - 1) / a * a ≤ hi)
    (hs : FirstSpec (m % a) a ((a - hi % a) % a) ((a - lo % a) % a) t true) : FirstSpec a m lo hi ((lo + m * t + a - 1) / a) true := by
  rcases hs with ⟨_, ht, hlt, hmin⟩ | ⟨c, _⟩
  · obtain ⟨v, v1, v2, e⟩ := far_up h ha hn ht
    have hp := h
    obtain ⟨h1, h2, h3, h4, h5, h6⟩ := h
    have mt0 : 0 ≤ m * t := Int.mul_nonneg (by omega) ht.1
    obtain ⟨c1, c2, c3⟩ := ceil_form (lo + m * t) a ha (by omega)
    have em : (lo + m * t + a - 1) / a * a % m = v := by
      rw [e, Int.add_comm, Int.add_mul_emod_self_left]; exact Int.emod_eq_of_lt (by omega) (by omega)
    refine .inl ⟨rfl, ⟨c3, by omega, by omega⟩, ?_, fun k hk => ?_⟩
    · have g : m * (t + 1) ≤ m * a := Int.mul_le_mul_of_nonneg_left (by omega) (by omega)
      rw [Int.mul_add, Int.mul_one] at g
      have g2 : ¬ m * a ≤ (lo + m * t + a - 1) / a * a := by omega
      apply Int.lt_of_not_ge
      intro g3
      exact g2 (Int.mul_le_mul_of_nonneg_right g3 (by omega))
    · obtain ⟨d1, d2⟩ := far_down hp ha hn hk
      have d3 : m * t ≤ m * (k * a / m) := Int.mul_le_mul_of_nonneg_left (hmin _ d1) (by omega)
      exact ceil_le _ a k ha (by omega)
  · cases c
/-- Nothing overflows. -/
theorem first_far_bd {a m lo hi t : Int} (h : FirstPre a m lo hi) (ht0 : 0 ≤ t) (ht : t < a) :
    0 ≤ m * t ∧ m * t ≤ 18446744065119617024 := by
  obtain ⟨h1, h2, h3, h4, h5, h6⟩ := h
  refine ⟨Int.mul_nonneg (by omega) ht0, ?_⟩
  have : m * t ≤ 4294967296 * 4294967294 := Int.mul_le_mul h6 (by omega) ht0 (by omega)
  omega
/-- The code's way to round up. -/
theorem ceil_code (x a : Int) (ha : 0 < a) (hx : 0 ≤ x) : (x + a - 1) / a = if x / a * a = x then x / a else x / a + 1 := by
  obtain ⟨h1, h2, h3⟩ := div_form x a ha
  rw [Int.mul_comm] at h1
  obtain ⟨c1, c2, c3⟩ := ceil_form x a ha hx
  split
  · rename_i g
    apply Int.le_antisymm
    · exact ceil_le x a _ ha (by omega)
    · have : ¬ (x + a - 1) / a < x / a := by
        intro k
        have : ((x + a - 1) / a + 1) * a ≤ x / a * a := Int.mul_le_mul_of_nonneg_right (by omega) (by omega)
        rw [Int.add_mul] at this; omega
      omega
  · rename_i g
    apply Int.le_antisymm
    · exact ceil_le x a _ ha (by rw [Int.add_mul]; omega)
    · have : ¬ (x + a - 1) / a < x / a + 1 := by
        intro k
        have : (x + a - 1) / a * a ≤ x / a * a := Int.mul_le_mul_of_nonneg_right (by omega) (by omega)
        omega
      omega
theorem first_exists : ∀ (f : Nat) (a m lo hi : Int), a < f → FirstPre a m lo hi → ∃ n ok, FirstSpec a m lo hi n ok
  | 0, a, m, lo, hi, hf, h => by have := h.1; omega
  | f + 1, a, m, lo, hi, hf, h => by
    by_cases ha : a = 0
    · subst ha; exact ⟨_, _, first_zero h⟩
    · have ha : 0 < a := by have := h.1; omega
      by_cases hn : (lo + a - 1) / a * a ≤ hi
      · exact ⟨_, _, first_near h ha hn⟩
      · obtain ⟨hp, _⟩ := far_pre h ha hn
        obtain ⟨t, ok, hs⟩ := first_exists f _ _ _ _ (by have := Int.emod_lt_of_pos m ha; omega) hp
        cases ok
        · exact ⟨_, _, first_far_none h ha hn hs⟩
        · exact ⟨_, _, first_far_some h ha hn hs⟩
theorem first_unique {a m lo hi n k : Int} {b c : Bool} (h : FirstSpec a m lo hi n b) (g : FirstSpec a m lo hi k c) : n = k ∧ b = c := by
  rcases h with ⟨rfl, h1, _, h3⟩ | ⟨rfl, rfl, h3⟩ <;> rcases g with ⟨rfl, g1, _, g3⟩ | ⟨rfl, rfl, g3⟩
  · exact ⟨Int.le_antisymm (h3 _ g1) (g3 _ h1), rfl⟩
  · exact absurd h1 (g3 _)
  · exact absurd g1 (h3 _)
  · exact ⟨rfl, rfl⟩
end Go.Proofs.YtodkfjdifchibaaDoor
