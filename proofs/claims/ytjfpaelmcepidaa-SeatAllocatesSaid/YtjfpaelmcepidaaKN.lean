/- known: the chapter's examples. -/
import Derived.Test.YtjfpaelmcepidaaC
namespace Go.Proofs.Ytjfpaelmcepidaa
open Go.RowKit

theorem moves_two (w : World) (x y z u : Int) : MovesIn (w.alloc (.cells #[.int .i64 x, .int .i64 y, .int .i64 z, .int .i64 u] 52)) (some ⟨w.heap.size, 0, none⟩) [(x, y), (z, u)] := by
  intro k hk
  have hk : k < 2 := hk
  match k, hk with
  | 0, _ => exact ⟨_, _, rfl, by simp [go_sem], by simp [go_sem]⟩
  | 1, _ => exact ⟨_, _, rfl, by simp [go_sem], by simp [go_sem]⟩
theorem few_swap : fewR [(1, 0), (0, 1)] = 3 ∧ validM [(1, 0), (0, 1)] = 0 := by decide
theorem row_chain : rowR [(1, 0), (2, 1)] 9 = [(2, 1), (1, 0)] ∧ rowedE [(1, 0), (2, 1)] 9 = 0 := by decide

set_option maxRecDepth 100000 in
set_option maxHeartbeats 1000000 in
theorem known_any (w : World) : Calls Try.prog 6 #[] w fun e w' => e = .returned (.bool true) ∧ Below w.heap.size w w' := by
  have HA : Hid (∀ w', Calls Try.prog 19 #[.slice (some ⟨w'.heap.size, 0, none⟩) 2 2] (w'.alloc (.cells #[.int .i64 1, .int .i64 0, .int .i64 0, .int .i64 1] 52)) fun e w'' => e = .returned (.tuple #[.int .i64 3, .int .i64 0]) ∧ Below w'.heap.size w' w'') := Lib.hid fun w' => by
    have := Fewest_any [(1, 0), (0, 1)] _ 2 _ (moves_two w' 1 0 0 1) (Nat.le_refl _)
    rw [few_swap.1, few_swap.2] at this
    exact this.mono fun e w'' ⟨h1, h2⟩ => ⟨h1, ((Below.refl _ _).alloc (Nat.le_refl _) _).trans (h2.mono (by simp))⟩
  have HB : Hid (∀ w', Calls Try.prog 20 #[.slice (some ⟨w'.heap.size, 0, none⟩) 2 2, .int .i64 9] (w'.alloc (.cells #[.int .i64 1, .int .i64 0, .int .i64 2, .int .i64 1] 52)) fun e w'' => ∃ v, e = .returned (.tuple #[v, .int .i64 0]) ∧ PairSl w'' v [(2, 1), (1, 0)] ∧ Below w'.heap.size w' w'') := Lib.hid fun w' => by
    have := Row_any [(1, 0), (2, 1)] _ 2 9 _ (moves_two w' 1 0 2 1) (Nat.le_refl _)
    rw [row_chain.1, row_chain.2] at this
    exact this.mono fun e w'' ⟨v, h1, h2, h3⟩ => ⟨v, h1, h2, ((Below.refl _ _).alloc (Nat.le_refl _) _).trans (h3.mono (by simp))⟩
  go_enter Try.func6, Try.ntmps6
  go_wp2_with fail
  refine (HA.out _).mono ?_; rintro e w1 ⟨rfl, hb1⟩
  have HB1 := Lib.hid hb1
  clear hb1
  go_wp2_with fail
  refine (HB.out _).mono ?_; rintro e w2 ⟨v, rfl, ⟨va, vc, rfl, hp⟩, hb2⟩
  have HB2 := Lib.hid (HB1.out.trans (hb2.mono HB1.out.size))
  obtain ⟨b, off, rfl, h1, h2⟩ := hp 0 (by decide)
  obtain ⟨b', off', e2, h3, h4⟩ := hp 1 (by decide)
  obtain ⟨rfl, rfl⟩ : b = b' ∧ off = off' := by simpa using e2
  have h1 : w2.cell? ⟨b, off, none⟩ = some (.int .i64 2) := h1
  have h2 : w2.cell? ⟨b, off + 1, none⟩ = some (.int .i64 1) := h2
  have h3 : w2.cell? ⟨b, off + 2, none⟩ = some (.int .i64 1) := h3
  have h4 : w2.cell? ⟨b, off + 2 + 1, none⟩ = some (.int .i64 0) := h4
  clear hb2 hp e2
  go_wp2_with fail
  go_ret
  exact ⟨rfl, HB2.out⟩

end Go.Proofs.Ytjfpaelmcepidaa
