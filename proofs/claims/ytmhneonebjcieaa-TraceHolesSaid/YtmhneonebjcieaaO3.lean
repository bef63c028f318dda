/- Opening an argument [2]int. -/
import Derived.Test.YtmhneonebjcieaaO2
namespace Go.Proofs.Ytmhneonebjcieaa
open Go.RowKit

set_option maxRecDepth 100000 in
theorem pair_arr {H : Type} {enc : TypeId × Value → H} {w : World} {base fuel : Nat} {held : Bool} {cs : List Value} {x : DataW H × List MemPlace}
    (h : DataW.trod enc Try.prog w base (fun _ => true) held fuel 48 cs = some x) : ∃ u v : Int, cs = [.int .i64 u, .int .i64 v] := by
  obtain ⟨xs, m, rfl, _, hlen, hxl, hf⟩ := DataW.trod_array Try.underlying48 h
  have c2 : Try.prog.cellsOf 48 = 2 := by kernel_rfl
  rw [c2] at hlen
  match cs, hlen with
  | [v0, v1], _ =>
    match xs, hxl with
    | [y0, y1], _ =>
      have g0 := hf 0 (by omega)
      have g1 := hf 1 (by omega)
      rw [int_cells] at g0 g1
      simp at g0 g1
      obtain ⟨u, hu, _, _⟩ := DataW.trod_int Try.underlying3 g0
      obtain ⟨v, hv, _, _⟩ := DataW.trod_int Try.underlying3 g1
      simp only [List.cons.injEq, and_true] at hu hv
      exact ⟨u, v, by rw [hu, hv]⟩
set_option maxRecDepth 100000 in
theorem open_pair {H : Type} {enc : TypeId × Value → H} {w : World} {base b0 : Nat} {held : Bool} {v : Value} {d : DataW H} {p : List MemPlace}
    (hv : Value.okWide Try.prog w .any b0 48 v) (h : DataW.Trod enc Try.prog w base (fun _ => true) held 48 v d p) : ∃ x y : Int, v = .agg #[.int .i64 x, .int .i64 y] := by
  unfold Value.okWide at hv
  rw [Try.underlying48] at hv
  obtain ⟨cs, rfl, hs, _⟩ := hv
  obtain ⟨fuel, hf⟩ := h
  obtain ⟨x, y, e⟩ := pair_arr hf
  refine ⟨x, y, ?_⟩
  have e : cs.toList = [.int .i64 x, .int .i64 y] := e
  rw [← Array.toList_inj.1 (show cs.toList = (#[.int .i64 x, .int .i64 y] : Array Value).toList from e)]
end Go.Proofs.Ytmhneonebjcieaa
