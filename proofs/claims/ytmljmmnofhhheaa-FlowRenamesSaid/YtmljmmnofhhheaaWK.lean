/- Two sets of nodes compared. -/
import Derived.Test.YtmljmmnofhhheaaWJ
import Derived.Test.YtmljmmnofhhheaaM3
import Derived.ChangeKeysEq
import Derived.Laws.StructEq
namespace Go.Proofs.Ytmljmmnofhhheaa
open Go.RowKit

theorem part0 (S : NSet) (w : World) : (part 4 (bools S) (0 * 1)).run Try.prog w = .ok (.bool (S 0)) w := by kernel_rfl
theorem part1 (S : NSet) (w : World) : (part 4 (bools S) (1 * 1)).run Try.prog w = .ok (.bool (S 1)) w := by kernel_rfl
theorem part2 (S : NSet) (w : World) : (part 4 (bools S) (2 * 1)).run Try.prog w = .ok (.bool (S 2)) w := by kernel_rfl
theorem part3 (S : NSet) (w : World) : (part 4 (bools S) (3 * 1)).run Try.prog w = .ok (.bool (S 3)) w := by kernel_rfl
theorem part4 (S : NSet) (w : World) : (part 4 (bools S) (4 * 1)).run Try.prog w = .ok (.bool (S 4)) w := by kernel_rfl
theorem part5 (S : NSet) (w : World) : (part 4 (bools S) (5 * 1)).run Try.prog w = .ok (.bool (S 5)) w := by kernel_rfl
theorem part6 (S : NSet) (w : World) : (part 4 (bools S) (6 * 1)).run Try.prog w = .ok (.bool (S 6)) w := by kernel_rfl
theorem part7 (S : NSet) (w : World) : (part 4 (bools S) (7 * 1)).run Try.prog w = .ok (.bool (S 7)) w := by kernel_rfl
theorem part8 (S : NSet) (w : World) : (part 4 (bools S) (8 * 1)).run Try.prog w = .ok (.bool (S 8)) w := by kernel_rfl
theorem part9 (S : NSet) (w : World) : (part 4 (bools S) (9 * 1)).run Try.prog w = .ok (.bool (S 9)) w := by kernel_rfl
theorem part_bools (S : NSet) (i : Nat) (h : i < 10) (w : World) : (part 4 (bools S) (i * 1)).run Try.prog w = .ok (.bool (S i)) w := by
  have : i = 0 ∨ i = 1 ∨ i = 2 ∨ i = 3 ∨ i = 4 ∨ i = 5 ∨ i = 6 ∨ i = 7 ∨ i = 8 ∨ i = 9 := by omega
  rcases this with rfl | rfl | rfl | rfl | rfl | rfl | rfl | rfl | rfl | rfl
  · exact part0 S w
  · exact part1 S w
  · exact part2 S w
  · exact part3 S w
  · exact part4 S w
  · exact part5 S w
  · exact part6 S w
  · exact part7 S w
  · exact part8 S w
  · exact part9 S w
theorem items_bools (S : NSet) (d : Nat) (w : World) : ∀ is : List Nat, (∀ i ∈ is, i < 10) →
    (Op.eqItems (d + 1) 4 1 (bools S) (bools fun _ => false) is).run Try.prog w = .ok (is.all fun i => !S i) w
  | [], _ => by simp [Op.eqItems]
  | i :: is, h => by
    simp only [Op.eqItems, Sem.run_bind, part_bools _ i (h i (by simp)), Result.andThen_ok, run_equalIn_bool w d 4 (S i) false Try.underlying4]
    have ih := items_bools S d w is (fun j hj => h j (by simp [hj]))
    cases hs : S i
    · simp [ih, hs]
    · simp [hs]
theorem empty_all {S : NSet} (h10 : ∀ j, S j = true → j < 10) : ((List.range 10).all fun i => !S i) = @decide (¬ ∃ j, S j = true) (Classical.propDecidable _) := by
  rw [Bool.eq_iff_iff, List.all_eq_true, @decide_eq_true_iff _ (Classical.propDecidable _)]
  constructor
  · intro h ⟨j, hj⟩
    have := h j (by simpa using h10 j hj)
    rw [hj] at this; cases this
  · intro h i _
    cases hs : S i
    · rfl
    · exact absurd ⟨i, hs⟩ h
theorem eq_none (S : NSet) (w : World) : (Op.equalIn 10000 54 (.agg (bools S)) (.agg (bools fun _ => false))).run Try.prog w = .ok ((List.range 10).all fun i => !S i) w := by
  have hi : ∃ i, Try.prog.info? 4 = some i := by
    cases h : Try.prog.info? 4 with
    | none => exact absurd h (by have := Try.infoBool; intro c; rw [c] at this; cases this)
    | some i => exact ⟨i, rfl⟩
  obtain ⟨i, hi⟩ := hi
  rw [show (10000 : Nat) = 9999 + 1 from rfl, run_equalIn_array w 9999 _ _ (show Try.prog.underlying 54 = some (.array 10 4) from Try.underlying54) hi]
  rw [show Try.prog.cellsOf 4 = 1 from by kernel_rfl]
  exact items_bools S 9998 w _ (by simp)
end Go.Proofs.Ytmljmmnofhhheaa
