/- Opening arguments [][2]int and []int. -/
import Derived.Test.YtgpacajlfclobaaO
import Derived.OpenShut
import Derived.Deep.Slices
namespace Go.Proofs.Ytgpacajlfclobaa
open Go.RowKit

theorem pair_arr {H : Type} {enc : TypeId × Value → H} {w : World} {base fuel : Nat} {held : Bool} {cs : List Value} {x : DataW H × List MemPlace}
    (h : DataW.trod enc Try.prog w base (fun _ => true) held fuel 56 cs = some x) : ∃ u v : Int, cs = [.int .i64 u, .int .i64 v] := by
  obtain ⟨xs, m, rfl, _, hlen, hxl, hf⟩ := DataW.trod_array Try.underlying56 h
  have c2 : Try.prog.cellsOf 56 = 2 := by kernel_rfl
  rw [c2] at hlen
  match cs, hlen with
  | [v0, v1], _ =>
    match xs, hxl with
    | [y0, y1], _ =>
      have g0 := hf 0 (by omega)
      have g1 := hf 1 (by omega)
      rw [int_cells] at g0 g1
      simp at g0 g1
      obtain ⟨u, hu, _, _⟩ := DataW.trod_int Try.underlying3 g0
      obtain ⟨v, hv, _, _⟩ := DataW.trod_int Try.underlying3 g1
      simp only [List.cons.injEq, and_true] at hu hv
      exact ⟨u, v, by rw [hu, hv]⟩
theorem open_edges {H : Type} {enc : TypeId × Value → H} {w : World} {base fuel : Nat} {held : Bool} {v : Value} {x : DataW H × List MemPlace}
    (h : DataW.trod enc Try.prog w base (fun _ => true) held fuel 34 [v] = some x) :
    ∃ a cap l, v = .slice a l.length cap ∧ MovesIn w a l ∧ l.length ≤ cap ∧ l.length ≤ maxLen := by
  have c2 : Try.prog.cellsOf 56 = 2 := by kernel_rfl
  rcases Deep.open_slice Try.underlying34 h with ⟨hv, _⟩ | ⟨a, len, cap, m, n, D, Pl, hv, _, hlc, hcm, hm, _, hall⟩
  · simp only [List.cons.injEq, and_true] at hv
    exact ⟨none, 0, [], hv, fun _ hk => absurd hk (Nat.not_lt_zero _), Nat.zero_le _, Nat.zero_le _⟩
  · simp only [List.cons.injEq, and_true] at hv
    rw [if_pos rfl] at hm
    have hint : ∀ i, i < cap → ∃ x y : Int, w.cell? (a.add (i * 2)) = some (.int .i64 x) ∧ w.cell? (a.add (i * 2 + 1)) = some (.int .i64 y) := fun i hi => by
      obtain ⟨cs', h1, h2⟩ := hall i (by omega)
      obtain ⟨u, v, rfl⟩ := pair_arr h2
      rw [c2] at h1
      obtain ⟨_, hlen, hcell⟩ := World.cells?_some h1
      have e0 := hcell 0 (by omega)
      have e1 := hcell 1 (by omega)
      rw [Deep.add_add] at e0 e1
      exact ⟨u, v, by simpa using e0, by simpa using e1⟩
    refine ⟨some a, cap, (List.range len).map fun i => (intV ((w.cell? (a.add (i * 2))).getD (.int .i64 0)), intV ((w.cell? (a.add (i * 2 + 1))).getD (.int .i64 0))), by simpa using hv, fun k hk => ?_, by simpa using hlc, by simp; omega⟩
    have hk : k < len := by simpa using hk
    obtain ⟨x, y, h1, h2⟩ := hint k (by omega)
    obtain ⟨x0, y0, h10, _⟩ := hint 0 (by omega)
    have hf : a = ⟨a.block, a.off, none⟩ := by
      have e : a.add (0 * 2) = a := by unfold Addr.add; simp
      rw [e] at h10
      exact addr_flat h10
    have eg : ((List.range len).map fun i => (intV ((w.cell? (a.add (i * 2))).getD (.int .i64 0)), intV ((w.cell? (a.add (i * 2 + 1))).getD (.int .i64 0)))).getD k (0, 0) = (x, y) := by
      simp [List.getD_eq_getElem?_getD, hk, h1, h2, intV]
    rw [eg]
    rw [add_flat hf] at h1 h2
    exact ⟨a.block, a.off, by rw [← hf], h1, by rw [Nat.add_assoc]; exact h2⟩
theorem edges_one {w : World} {base : Nat} {v : Value} (h : Value.okWide Try.prog w .any base 34 v) : v.cells.toList = [v] := by
  unfold Value.okWide at h
  rw [Try.underlying34] at h
  cases v with
  | agg cs => simp [Cell.okWide, Cell.ok, Try.underlying34] at h
  | _ => rfl
theorem open_ints {H : Type} {enc : TypeId × Value → H} {w : World} {base fuel : Nat} {held : Bool} {v : Value} {x : DataW H × List MemPlace}
    (h : DataW.trod enc Try.prog w base (fun _ => true) held fuel 35 [v] = some x) :
    ∃ a cap l, v = .slice a l.length cap ∧ IntsIn w a l ∧ l.length ≤ cap ∧ l.length ≤ maxLen := by
  rcases Deep.open_slice1 Try.underlying35 int_cells h with ⟨hv, _⟩ | ⟨a, len, cap, m, n, V, D, Pl, hv, _, hlc, hcm, hm, _, hall⟩
  · simp only [List.cons.injEq, and_true] at hv
    exact ⟨none, 0, [], hv, fun _ hk => absurd hk (Nat.not_lt_zero _), Nat.zero_le _, Nat.zero_le _⟩
  · simp only [List.cons.injEq, and_true] at hv
    rw [if_pos rfl] at hm
    have hint : ∀ i, i < cap → ∃ x : Int, w.cell? (a.add i) = some (.int .i64 x) := fun i hi => by
      obtain ⟨h1, h2⟩ := hall i (by omega)
      obtain ⟨x, hx, _, _⟩ := DataW.trod_int Try.underlying3 h2
      simp only [List.cons.injEq, and_true] at hx
      exact ⟨x, by rw [h1, hx]⟩
    refine ⟨some a, cap, (List.range len).map fun i => intV ((w.cell? (a.add i)).getD (.int .i64 0)), by simpa using hv, fun k hk => ?_, by simpa using hlc, by simp; omega⟩
    have hk : k < len := by simpa using hk
    obtain ⟨x, h1⟩ := hint k (by omega)
    obtain ⟨x0, h10⟩ := hint 0 (by omega)
    have hf : a = ⟨a.block, a.off, none⟩ := by
      have e : a.add 0 = a := by unfold Addr.add; simp
      rw [e] at h10
      exact addr_flat h10
    have eg : ((List.range len).map fun i => intV ((w.cell? (a.add i)).getD (.int .i64 0))).getD k 0 = x := by
      simp [List.getD_eq_getElem?_getD, hk, h1, intV]
    rw [eg]
    rw [add_flat hf] at h1
    exact ⟨a.block, a.off, by rw [← hf], h1⟩
theorem ints_one {w : World} {base : Nat} {v : Value} (h : Value.okWide Try.prog w .any base 35 v) : v.cells.toList = [v] := by
  unfold Value.okWide at h
  rw [Try.underlying35] at h
  cases v with
  | agg cs => simp [Cell.okWide, Cell.ok, Try.underlying35] at h
  | _ => rfl
end Go.Proofs.Ytgpacajlfclobaa
