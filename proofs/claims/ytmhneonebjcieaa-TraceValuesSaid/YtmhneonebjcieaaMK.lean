/- The keys of Merge's map: structs of three numbers. -/
import Derived.Test.YtmhneonebjcieaaW6
import Derived.DeepKeys4
import Derived.Maps.Keyed
import Derived.Maps.OwnOps
namespace Go.Proofs.Ytmhneonebjcieaa
open Go.RowKit Go.Maps

theorem laidOutP : laidOutB Try.prog = true := by kernel_rfl
theorem thingLaw : Keyed Try.prog 73 := Keyed.of_law (deep_law_laid laidOutP (m := 2) (by omega) (of_decide_eq_true (by kernel_rfl)) (by kernel_rfl) (by kernel_rfl))
/-- The key of a place's thing. -/
def keyL (p : Pl) : Lit := .string (keyBytes [.int .i64 p.va, .int .i64 p.ki, .int .i64 p.nn])
theorem wf_small {n : Int} (h0 : 0 ≤ n) (h1 : n ≤ 4294967295) : (Lit.int .i64 n).wf = true := by
  simp [Lit.wf, IntKind.min, IntKind.max, IntKind.bits, IntKind.signed]
  omega
theorem keyOf_thing {p : Pl} (hg : Good p) : keyOf Try.prog 73 (.agg #[.int .i64 p.va, .int .i64 p.ki, .int .i64 p.nn]) = some (keyL p) := by
  obtain ⟨f0, ft, t1, v0, v1, k0, k1, n0, n1⟩ := hg
  have := limK_le p.ki
  have w0 := wf_small (n := p.va) v0 (by omega)
  have w1 := wf_small (n := p.ki) k0 (by omega)
  have w2 := wf_small (n := p.nn) n0 (by omega)
  have hk : Try.prog.keyType 73 = true := by kernel_rfl
  have hf : (Value.agg #[.int .i64 p.va, .int .i64 p.ki, .int .i64 p.nn]).formed Try.prog 73 = true := by
    have c3 : Try.prog.cellsOf 73 = 3 := by kernel_rfl
    unfold Value.formed
    rw [Try.underlying73]
    simp [c3]
  unfold keyOf
  rw [Try.underlying73]
  simp only [hk, hf, Bool.and_self, if_true]
  have hl : Try.prog.keyLits (Try.prog.types.size + 1) 73 (Value.agg #[.int .i64 p.va, .int .i64 p.ki, .int .i64 p.nn]).cells.toList = some [.int .i64 p.va, .int .i64 p.ki, .int .i64 p.nn] := by
    have c1 : Try.prog.cellsOf 3 = 1 := by kernel_rfl
    have c3 : Try.prog.cellsOf 73 = 3 := by kernel_rfl
    obtain ⟨d, hd⟩ : ∃ d, Try.prog.types.size = d + 1 := Nat.exists_eq_succ_of_ne_zero (Nat.ne_of_gt (of_decide_eq_true (by kernel_rfl : decide (0 < Try.prog.types.size) = true)))
    rw [hd]
    show Try.prog.keyLits (d + 1 + 1) 73 [.int .i64 p.va, .int .i64 p.ki, .int .i64 p.nn] = _
    simp [Program.keyLits, Try.underlying73, Try.underlying3, c1, c3, w0, w1, w2]
  rw [hl]
  rfl
end Go.Proofs.Ytmhneonebjcieaa
