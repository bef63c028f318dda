/- The walk of known. -/
import Derived.Test.YtccpjfppkahbmaaTB
namespace Go.Proofs.Ytccpjfppkahbmaa
open Go.RowKit PK

def kl1 : List Cd := [⟨4, 1, 0, 0, 0, 0⟩, ⟨2, 2, 1, 1, 0, 0⟩, ⟨0, 3, 0, 0, 0, 0⟩]
def kl2 : List Cd := [⟨4, 1, 0, 0, 0, 0⟩, ⟨0, 3, 0, 0, 0, 0⟩, ⟨2, 2, 1, 1, 0, 0⟩]
theorem kl1_e : tErr kl1 = 0 := by decide
theorem kl2_e : tErr kl2 = 0 := by decide
theorem kl1_i : issueL kl1 = [0, 3, 4] := by decide
theorem kl2_c : costV kl2 = 4 := by decide
theorem cds_made (w : World) (l : List Cd) (t : TypeId) : CdsIn (w.alloc (.cells (encC l).toArray t)) (some ⟨w.heap.size, 0, none⟩) l := cds_of_cells fun j u hj => by
  rw [cell_of_row _ w.heap.size j _ _ _ (heap_alloc_new w _)]; simpa using hj
theorem known_issue (w : World) (a : Option Addr) (h : CdsIn w a kl1) : Calls Try.prog 12 #[.slice a 3 3] w fun e w' => (∃ ra rc, e = .returned (.tuple #[.slice ra 3 rc, .int .i64 0]) ∧ IntsIn w' ra [0, 3, 4]) ∧ Below w.heap.size w w' := by
  refine (Issue_any kl1 a 3 w h (by decide)).mono ?_
  rintro e w' ⟨⟨ra, rc, rfl, hi⟩, hb⟩
  rw [kl1_i] at hi ⊢
  rw [kl1_e]
  exact ⟨⟨ra, rc, rfl, hi⟩, hb⟩
theorem known_cost (w : World) (a : Option Addr) (h : CdsIn w a kl2) : Calls Try.prog 14 #[.slice a 3 3] w fun e w' => e = .returned (.tuple #[.int .i64 4, .int .i64 0]) ∧ Below w.heap.size w w' := by
  refine (Cost_any kl2 a 3 w h (by decide)).mono ?_
  rintro e w' ⟨rfl, hb⟩
  rw [kl2_c, kl2_e]
  exact ⟨rfl, hb⟩
end Go.Proofs.Ytccpjfppkahbmaa
