/- Opening an argument Graph, a struct by value. -/
import Derived.Test.YtgpacajlfclobaaO2
import Derived.OpenShut
import Derived.Lib.SmallJoins
namespace Go.Proofs.Ytgpacajlfclobaa
open Go.RowKit Go.Joins

theorem open_graph {H : Type} {enc : TypeId × Value → H} {w : World} {base b0 : Nat} {spare : Nat → Bool} {held : Bool} {r : Reach} {v : Value} {d : DataW H} {p : List MemPlace}
    (hv : Value.okWide Try.prog w r b0 39 v) (h : DataW.Trod enc Try.prog w base spare held 39 v d p) : ∃ x y : Int, v = .agg #[.int .i64 x, .int .i64 y] := by
  obtain ⟨v0, v1, y0, y1, n, rfl, _, _, h0, h1⟩ := open_agg2 Try.underlying39 (by kernel_rfl) (by kernel_rfl) hv h
  obtain ⟨x, hx, _, _⟩ := DataW.trod_int Try.underlying3 h0
  obtain ⟨y, hy, _, _⟩ := DataW.trod_int Try.underlying3 h1
  simp only [List.cons.injEq, and_true] at hx hy
  exact ⟨x, y, by rw [hx, hy]⟩
end Go.Proofs.Ytgpacajlfclobaa
