/- After how many steps a count ends: plain arithmetic. -/
import Derived.Test.YtodkfjdifchibaaDoorQ
import Derived.Test.YtodkfjdifchibaaDoorP
namespace Go.Proofs.YtodkfjdifchibaaDoor

def InS (m s t lo hi k : Int) : Prop := 0 ≤ k ∧ lo ≤ (s + k * t) % m ∧ (s + k * t) % m ≤ hi
def UntilSpec (m s t lo hi : Int) (empty : Bool) (n : Int) (ok : Bool) : Prop :=
  (ok = true ∧ empty = false ∧ InS m s t lo hi n ∧ n < m ∧ ∀ k, InS m s t lo hi k → n ≤ k) ∨ (ok = false ∧ n = 0 ∧ (empty = true ∨ ∀ k, ¬ InS m s t lo hi k))
def UntilPre (m s t lo hi : Int) (empty : Bool) : Prop := 0 ≤ s ∧ s < m ∧ 0 ≤ t ∧ t < m ∧ m ≤ 4294967296 ∧ (empty = false → 0 ≤ lo ∧ lo ≤ hi ∧ hi < m)

theorem until_empty {m s t lo hi : Int} : UntilSpec m s t lo hi true 0 false := .inr ⟨rfl, rfl, .inl rfl⟩
theorem until_now {m s t lo hi : Int} (h : UntilPre m s t lo hi false) (h1 : lo ≤ s) (h2 : s ≤ hi) : UntilSpec m s t lo hi false 0 true := by
  obtain ⟨a1, a2, a3, a4, a5, a6⟩ := h
  have e : (s + 0 * t) % m = s := by rw [Int.zero_mul, Int.add_zero]; exact Int.emod_eq_of_lt a1 a2
  exact .inl ⟨rfl, rfl, ⟨Int.le_refl _, by rw [e]; exact h1, by rw [e]; exact h2⟩, by omega, fun k hk => hk.1⟩
theorem until_shift {m s lo hi : Int} (x : Int) (hs0 : 0 ≤ s) (hs : s < m) (hl : 0 ≤ lo) (hlh : lo ≤ hi) (hh : hi < m) (hn : ¬ (lo ≤ s ∧ s ≤ hi)) :
    1 ≤ (lo + m - s) % m ∧ (lo + m - s) % m ≤ (hi + m - s) % m ∧ (hi + m - s) % m < m ∧
    ((lo + m - s) % m ≤ x % m ∧ x % m ≤ (hi + m - s) % m ↔ lo ≤ (s + x) % m ∧ (s + x) % m ≤ hi) := by
  have hm : 0 < m := by omega
  have v0 := Int.emod_nonneg x (show m ≠ 0 by omega)
  have v1 := Int.emod_lt_of_pos x hm
  have e : (s + x) % m = (s + x % m) % m := by rw [Int.add_emod s x, Int.add_emod s (x % m), Int.emod_emod_of_dvd x (Int.dvd_refl m)]
  rw [e]
  generalize x % m = v at *
  have ev : (s + v) % m = if s + v < m then s + v else s + v - m := by
    split
    · exact Int.emod_eq_of_lt (by omega) (by omega)
    · rw [← Int.emod_eq_of_lt (show 0 ≤ s + v - m by omega) (show s + v - m < m by omega), Int.sub_emod_right]
  rw [ev]
  by_cases hc : s < lo
  · have e1 : (lo + m - s) % m = lo - s := by
      rw [show lo + m - s = lo - s + m by omega, Int.add_emod_right]; exact Int.emod_eq_of_lt (by omega) (by omega)
    have e2 : (hi + m - s) % m = hi - s := by
      rw [show hi + m - s = hi - s + m by omega, Int.add_emod_right]; exact Int.emod_eq_of_lt (by omega) (by omega)
    rw [e1, e2]
    split <;> omega
  · have e1 : (lo + m - s) % m = lo + m - s := Int.emod_eq_of_lt (by omega) (by omega)
    have e2 : (hi + m - s) % m = hi + m - s := Int.emod_eq_of_lt (by omega) (by omega)
    rw [e1, e2]
    split <;> omega
theorem until_pre {m s t lo hi : Int} (h : UntilPre m s t lo hi false) (hn : ¬ (lo ≤ s ∧ s ≤ hi)) : FirstPre t m ((lo + m - s) % m) ((hi + m - s) % m) := by
  obtain ⟨a1, a2, a3, a4, a5, a6⟩ := h
  obtain ⟨b1, b2, b3⟩ := a6 rfl
  obtain ⟨c1, c2, c3, _⟩ := until_shift (0 : Int) a1 a2 b1 b2 b3 hn
  exact ⟨a3, a4, c1, c2, c3, a5⟩
theorem until_hit {m s t lo hi k : Int} (h : UntilPre m s t lo hi false) (hn : ¬ (lo ≤ s ∧ s ≤ hi)) : Hit t m ((lo + m - s) % m) ((hi + m - s) % m) k ↔ InS m s t lo hi k := by
  obtain ⟨a1, a2, a3, a4, a5, a6⟩ := h
  obtain ⟨b1, b2, b3⟩ := a6 rfl
  obtain ⟨_, _, _, c⟩ := until_shift (k * t) a1 a2 b1 b2 b3 hn
  unfold Hit InS
  rw [c]
theorem until_first {m s t lo hi n : Int} {ok : Bool} (h : UntilPre m s t lo hi false) (hn : ¬ (lo ≤ s ∧ s ≤ hi))
    (hf : FirstSpec t m ((lo + m - s) % m) ((hi + m - s) % m) n ok) : UntilSpec m s t lo hi false n ok := by
  rcases hf with ⟨rfl, h1, h2, h3⟩ | ⟨rfl, rfl, h3⟩
  · exact .inl ⟨rfl, rfl, (until_hit h hn).1 h1, h2, fun k hk => h3 k ((until_hit h hn).2 hk)⟩
  · exact .inr ⟨rfl, rfl, .inr fun k hk => h3 k ((until_hit h hn).2 hk)⟩
theorem until_unique {m s t lo hi n k : Int} {e b c : Bool} (h : UntilSpec m s t lo hi e n b) (g : UntilSpec m s t lo hi e k c) : n = k ∧ b = c := by
  rcases h with ⟨rfl, he, h1, _, h3⟩ | ⟨rfl, rfl, h3⟩ <;> rcases g with ⟨rfl, ge, g1, _, g3⟩ | ⟨rfl, rfl, g3⟩
  · exact ⟨Int.le_antisymm (h3 _ g1) (g3 _ h1), rfl⟩
  · rcases g3 with g3 | g3
    · rw [he] at g3; cases g3
    · exact absurd h1 (g3 _)
  · rcases h3 with h3 | h3
    · rw [ge] at h3; cases h3
    · exact absurd g1 (h3 _)
  · exact ⟨rfl, rfl⟩
theorem until_exists (m s t lo hi : Int) (e : Bool) (h : UntilPre m s t lo hi e) : ∃ n ok, UntilSpec m s t lo hi e n ok := by
  cases e
  · by_cases hn : lo ≤ s ∧ s ≤ hi
    · exact ⟨_, _, until_now h hn.1 hn.2⟩
    · obtain ⟨n, ok, hf⟩ := first_exists (t.toNat + 1) t m _ _ (by have := h.2.2.1; omega) (until_pre h hn)
      exact ⟨_, _, until_first h hn hf⟩
  · exact ⟨_, _, until_empty⟩
end Go.Proofs.YtodkfjdifchibaaDoor
