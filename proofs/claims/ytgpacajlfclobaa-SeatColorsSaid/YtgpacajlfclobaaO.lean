/- Opening an argument []api.Move. -/
import Derived.Test.YtgpacajlfclobaaC
import Derived.Deep.SlicePairs
namespace Go.Proofs.Ytgpacajlfclobaa
open Go.RowKit

theorem addr_flat {w : World} {a : Addr} {v : Value} (h : w.cell? a = some v) : a = ⟨a.block, a.off, none⟩ := by
  obtain ⟨b, o, s⟩ := a
  cases s with
  | none => rfl
  | some x =>
    unfold World.cell? at h
    split at h
    · simp at h
    · cases h
theorem add_flat {a : Addr} (h : a = ⟨a.block, a.off, none⟩) (k : Nat) : a.add k = ⟨a.block, a.off + k, none⟩ := by
  unfold Addr.add
  split
  · rename_i h0; subst h0; exact h
  · rfl
/-- The number of an integer. -/
def intV : Value → Int
  | .int _ n => n
  | _ => 0
theorem move_cells : Try.prog.cellsOf 46 = 2 := by kernel_rfl
theorem int_cells : Try.prog.cellsOf 3 = 1 := by kernel_rfl
/-- What the reading of an argument []api.Move tells. -/
theorem open_moves {H : Type} {enc : TypeId × Value → H} {w : World} {base fuel : Nat} {held : Bool} {v : Value} {x : DataW H × List MemPlace}
    (h : DataW.trod enc Try.prog w base (fun _ => true) held fuel 22 [v] = some x) :
    ∃ a cap l, v = .slice a l.length cap ∧ MovesIn w a l ∧ l.length ≤ cap ∧ l.length ≤ maxLen := by
  rcases Deep.open_slice_pairs Try.underlying22 Try.underlying46 move_cells rfl rfl int_cells int_cells h with ⟨hv, _⟩ | ⟨a, len, cap, m, n, V0, V1, D0, D1, P0, P1, hv, _, hlc, hcm, hm, _, hall⟩
  · simp only [List.cons.injEq, and_true] at hv
    exact ⟨none, 0, [], hv, fun _ hk => absurd hk (Nat.not_lt_zero _), Nat.zero_le _, Nat.zero_le _⟩
  · simp only [List.cons.injEq, and_true] at hv
    rw [if_pos rfl] at hm
    have hint : ∀ i, i < cap → ∃ x y : Int, w.cell? (a.add (i * 2)) = some (.int .i64 x) ∧ w.cell? (a.add (i * 2 + 1)) = some (.int .i64 y) := fun i hi => by
      obtain ⟨h1, h2, h3, h4⟩ := hall i (by omega)
      obtain ⟨x, hx, _, _⟩ := DataW.trod_int Try.underlying3 h3
      obtain ⟨y, hy, _, _⟩ := DataW.trod_int Try.underlying3 h4
      simp only [List.cons.injEq, and_true] at hx hy
      exact ⟨x, y, by rw [h1, hx], by rw [h2, hy]⟩
    refine ⟨some a, cap, (List.range len).map fun i => (intV ((w.cell? (a.add (i * 2))).getD (.int .i64 0)), intV ((w.cell? (a.add (i * 2 + 1))).getD (.int .i64 0))), by simpa using hv, fun k hk => ?_, by simpa using hlc, by simp; omega⟩
    have hk : k < len := by simpa using hk
    obtain ⟨x, y, h1, h2⟩ := hint k (by omega)
    obtain ⟨x0, y0, h10, _⟩ := hint 0 (by omega)
    have hf : a = ⟨a.block, a.off, none⟩ := by
      have e : a.add (0 * 2) = a := by unfold Addr.add; simp
      rw [e] at h10
      exact addr_flat h10
    have eg : ((List.range len).map fun i => (intV ((w.cell? (a.add (i * 2))).getD (.int .i64 0)), intV ((w.cell? (a.add (i * 2 + 1))).getD (.int .i64 0)))).getD k (0, 0) = (x, y) := by
      simp [List.getD_eq_getElem?_getD, hk, h1, h2, intV]
    rw [eg]
    rw [add_flat hf] at h1 h2
    exact ⟨a.block, a.off, by rw [← hf], h1, by rw [Nat.add_assoc]; exact h2⟩
theorem moves_one {w : World} {base : Nat} {v : Value} (h : Value.okWide Try.prog w .any base 22 v) : v.cells.toList = [v] := by
  unfold Value.okWide at h
  rw [Try.underlying22] at h
  cases v with
  | agg cs => simp [Cell.okWide, Cell.ok, Try.underlying22] at h
  | _ => rfl
end Go.Proofs.Ytgpacajlfclobaa
