/-
  No cell of these rows narrows 'for every input' (looked for: loops, veiled, ifaces, maps, wideKeys, modest, calm, conditions, laid).
  DERIVED. THE GIVEN ROWS OF THIS SEAT. 8 by the template 'for every input the law returns true; each argument reads behind the call as it read before'; 0 by the template 'total and deterministic' (their statements: YtmljmmnofhhheaaTotals.lean).
  GIVEN WITH THE SEED: the statements are not yours to turn. If you find one false, say at which input.
  Laid BY PROGRAM, IN A SANDBOX (cutbox-rows.mjs): the forced cells as the released guide's own fill.sh prints them over the translation cbbd591302d0924d… (all of the seat's roots in one cut). By AI agents, Wed Nov 11 2026. No macro, syntax, notation, axiom, sorry.
-/
import Derived.Test.YtmljmmnofhhheaaChecked
import GoSem.Claim
import GoSem.ClaimJoined
import GoSem.ClaimMapViews
import Derived.JoinedTies
import Derived.KernelRfl
namespace Go.Proofs.Ytmljmmnofhhheaa
/- THE CELL 'sum', in the pinned program and in every row, IS THE sha256 OF THE DUMP (.gsa) THAT YtmljmmnofhhheaaProg.lean LOADS. Nothing in Lean hashes anything: it is a label: what it is worth is what the hold of that sum in a sandbox is worth. -/
noncomputable def Try.pinned : Pinned := { name := "ytmljmmnofhhheaa", sum := "cbbd591302d0924d61e0769c8ee0f5670ab84540e3a09c760e67be8fe895a332", checked := Try.checked }
namespace Rows
def none {H : Type} : Left H := { results := [], args := [] }

/-- 'backstaylaw02.FlowReduces': WHATEVER THE INPUT: true; the input reads as it did. -/
def flowReducesSpec : ChangeSpec := { name := "flowReduces", fn := fun _ => fun
  | [d] => { results := [.lit (.bool true)], args := [d] }
  | _ => none }
def flowReducesRow : OpenClaim := { program := "ytmljmmnofhhheaa", sum := "cbbd591302d0924d61e0769c8ee0f5670ab84540e3a09c760e67be8fe895a332", func := "backstay/backstaylaw02.FlowReduces", spec := "flowReduces", unfollowed := true, recurses := true, apart := false }
def FlowReducesSaid : Prop := flowReducesRow.holds Try.pinned (OpenSpec.ofChange flowReducesSpec)

/-- ITS FALSE NEIGHBOUR: 'it returns false'. Refute it at one input. -/
def flowReducesWrong : ChangeSpec := { name := "flowReduces", fn := fun _ => fun
  | [d] => { results := [.lit (.bool false)], args := [d] }
  | _ => none }
def FlowReducesWrongFalsely : Prop := flowReducesRow.holds Try.pinned (OpenSpec.ofChange flowReducesWrong)

/-- 'backstaylaw02.FlowOrders': WHATEVER THE INPUT: true; the input reads as it did. -/
def flowOrdersSpec : ChangeSpec := { name := "flowOrders", fn := fun _ => fun
  | [d] => { results := [.lit (.bool true)], args := [d] }
  | _ => none }
def flowOrdersRow : OpenClaim := { program := "ytmljmmnofhhheaa", sum := "cbbd591302d0924d61e0769c8ee0f5670ab84540e3a09c760e67be8fe895a332", func := "backstay/backstaylaw02.FlowOrders", spec := "flowOrders", unfollowed := true, recurses := true, apart := false }
def FlowOrdersSaid : Prop := flowOrdersRow.holds Try.pinned (OpenSpec.ofChange flowOrdersSpec)

/-- ITS FALSE NEIGHBOUR: 'it returns false'. Refute it at one input. -/
def flowOrdersWrong : ChangeSpec := { name := "flowOrders", fn := fun _ => fun
  | [d] => { results := [.lit (.bool false)], args := [d] }
  | _ => none }
def FlowOrdersWrongFalsely : Prop := flowOrdersRow.holds Try.pinned (OpenSpec.ofChange flowOrdersWrong)

/-- 'backstaylaw02.FlowGraphs': WHATEVER THE INPUT: true; the input reads as it did. -/
def flowGraphsSpec : ChangeSpec := { name := "flowGraphs", fn := fun _ => fun
  | [d1, d2] => { results := [.lit (.bool true)], args := [d1, d2] }
  | _ => none }
def flowGraphsRow : OpenClaim := { program := "ytmljmmnofhhheaa", sum := "cbbd591302d0924d61e0769c8ee0f5670ab84540e3a09c760e67be8fe895a332", func := "backstay/backstaylaw02.FlowGraphs", spec := "flowGraphs", unfollowed := true, recurses := true, apart := false }
def FlowGraphsSaid : Prop := flowGraphsRow.holds Try.pinned (OpenSpec.ofChange flowGraphsSpec)

/-- ITS FALSE NEIGHBOUR: 'it returns false'. Refute it at one input. -/
def flowGraphsWrong : ChangeSpec := { name := "flowGraphs", fn := fun _ => fun
  | [d1, d2] => { results := [.lit (.bool false)], args := [d1, d2] }
  | _ => none }
def FlowGraphsWrongFalsely : Prop := flowGraphsRow.holds Try.pinned (OpenSpec.ofChange flowGraphsWrong)

/-- 'backstaylaw02.FlowSorts': WHATEVER THE INPUT: true; the input reads as it did. -/
def flowSortsSpec : ChangeSpec := { name := "flowSorts", fn := fun _ => fun
  | [d] => { results := [.lit (.bool true)], args := [d] }
  | _ => none }
def flowSortsRow : OpenClaim := { program := "ytmljmmnofhhheaa", sum := "cbbd591302d0924d61e0769c8ee0f5670ab84540e3a09c760e67be8fe895a332", func := "backstay/backstaylaw02.FlowSorts", spec := "flowSorts", unfollowed := true, recurses := true, apart := false }
def FlowSortsSaid : Prop := flowSortsRow.holds Try.pinned (OpenSpec.ofChange flowSortsSpec)

/-- ITS FALSE NEIGHBOUR: 'it returns false'. Refute it at one input. -/
def flowSortsWrong : ChangeSpec := { name := "flowSorts", fn := fun _ => fun
  | [d] => { results := [.lit (.bool false)], args := [d] }
  | _ => none }
def FlowSortsWrongFalsely : Prop := flowSortsRow.holds Try.pinned (OpenSpec.ofChange flowSortsWrong)

/-- 'backstaylaw02.FlowDominates': WHATEVER THE INPUT: true; the input reads as it did. -/
def flowDominatesSpec : ChangeSpec := { name := "flowDominates", fn := fun _ => fun
  | [d1, d2, d3] => { results := [.lit (.bool true)], args := [d1, d2, d3] }
  | _ => none }
def flowDominatesRow : OpenClaim := { program := "ytmljmmnofhhheaa", sum := "cbbd591302d0924d61e0769c8ee0f5670ab84540e3a09c760e67be8fe895a332", func := "backstay/backstaylaw02.FlowDominates", spec := "flowDominates", unfollowed := true, recurses := true, apart := false }
def FlowDominatesSaid : Prop := flowDominatesRow.holds Try.pinned (OpenSpec.ofChange flowDominatesSpec)

/-- ITS FALSE NEIGHBOUR: 'it returns false'. Refute it at one input. -/
def flowDominatesWrong : ChangeSpec := { name := "flowDominates", fn := fun _ => fun
  | [d1, d2, d3] => { results := [.lit (.bool false)], args := [d1, d2, d3] }
  | _ => none }
def FlowDominatesWrongFalsely : Prop := flowDominatesRow.holds Try.pinned (OpenSpec.ofChange flowDominatesWrong)

/-- 'backstaylaw02.FlowRenames': WHATEVER THE INPUT: true; the input reads as it did. -/
def flowRenamesSpec : ChangeSpec := { name := "flowRenames", fn := fun _ => fun
  | [d1, d2] => { results := [.lit (.bool true)], args := [d1, d2] }
  | _ => none }
def flowRenamesRow : OpenClaim := { program := "ytmljmmnofhhheaa", sum := "cbbd591302d0924d61e0769c8ee0f5670ab84540e3a09c760e67be8fe895a332", func := "backstay/backstaylaw02.FlowRenames", spec := "flowRenames", unfollowed := true, recurses := true, apart := false }
def FlowRenamesSaid : Prop := flowRenamesRow.holds Try.pinned (OpenSpec.ofChange flowRenamesSpec)

/-- ITS FALSE NEIGHBOUR: 'it returns false'. Refute it at one input. -/
def flowRenamesWrong : ChangeSpec := { name := "flowRenames", fn := fun _ => fun
  | [d1, d2] => { results := [.lit (.bool false)], args := [d1, d2] }
  | _ => none }
def FlowRenamesWrongFalsely : Prop := flowRenamesRow.holds Try.pinned (OpenSpec.ofChange flowRenamesWrong)

/-- 'backstaylaw02.FlowParents': WHATEVER THE INPUT: true; the input reads as it did. -/
def flowParentsSpec : ChangeSpec := { name := "flowParents", fn := fun _ => fun
  | [d1, d2] => { results := [.lit (.bool true)], args := [d1, d2] }
  | _ => none }
def flowParentsRow : OpenClaim := { program := "ytmljmmnofhhheaa", sum := "cbbd591302d0924d61e0769c8ee0f5670ab84540e3a09c760e67be8fe895a332", func := "backstay/backstaylaw02.FlowParents", spec := "flowParents", unfollowed := true, recurses := true, apart := false }
def FlowParentsSaid : Prop := flowParentsRow.holds Try.pinned (OpenSpec.ofChange flowParentsSpec)

/-- ITS FALSE NEIGHBOUR: 'it returns false'. Refute it at one input. -/
def flowParentsWrong : ChangeSpec := { name := "flowParents", fn := fun _ => fun
  | [d1, d2] => { results := [.lit (.bool false)], args := [d1, d2] }
  | _ => none }
def FlowParentsWrongFalsely : Prop := flowParentsRow.holds Try.pinned (OpenSpec.ofChange flowParentsWrong)

/-- 'backstaylaw02.FlowLoops': WHATEVER THE INPUT: true; the input reads as it did. -/
def flowLoopsSpec : ChangeSpec := { name := "flowLoops", fn := fun _ => fun
  | [d1, d2] => { results := [.lit (.bool true)], args := [d1, d2] }
  | _ => none }
def flowLoopsRow : OpenClaim := { program := "ytmljmmnofhhheaa", sum := "cbbd591302d0924d61e0769c8ee0f5670ab84540e3a09c760e67be8fe895a332", func := "backstay/backstaylaw02.FlowLoops", spec := "flowLoops", unfollowed := true, recurses := true, apart := false }
def FlowLoopsSaid : Prop := flowLoopsRow.holds Try.pinned (OpenSpec.ofChange flowLoopsSpec)

/-- ITS FALSE NEIGHBOUR: 'it returns false'. Refute it at one input. -/
def flowLoopsWrong : ChangeSpec := { name := "flowLoops", fn := fun _ => fun
  | [d1, d2] => { results := [.lit (.bool false)], args := [d1, d2] }
  | _ => none }
def FlowLoopsWrongFalsely : Prop := flowLoopsRow.holds Try.pinned (OpenSpec.ofChange flowLoopsWrong)

/- THE SECOND FORM. 'bulk': how many values and letters a reading holds, each counted each time it is reached (what is shared counts as often as it is met; a slice's spare places count too). A statement '..UptoSaid' is the law's where the arguments, and the package variables that the reading takes, are together of bulk at most 1048576: NARROWER than '..Said'. Prove '..Said' where nothing that the law and all that it calls make is longer than what came in: it says more and counts as full. Else prove '..UptoSaid'. A law counts once. -/
mutual
def uptoBulk {H : Type} : DataW H → Nat
  | .lit (.string bytes) => bytes.length + 1
  | .lit _ => 1
  | .nil => 1
  | .ptr d => uptoBulk d + 1
  | .slice elems spare => uptoBulkAll elems + uptoBulkAll spare + 1
  | .agg parts => uptoBulkAll parts + 1
  | .iface _ d => uptoBulk d + 1
  | .map entries => uptoBulkEntries entries + 1
  | .held _ => 1
def uptoBulkAll {H : Type} : List (DataW H) → Nat
  | [] => 0
  | d :: r => uptoBulk d + uptoBulkAll r
def uptoBulkEntries {H : Type} : List (Lit × DataW H) → Nat
  | [] => 0
  | x :: r => uptoBulkEntry x + uptoBulkEntries r
def uptoBulkEntry {H : Type} : Lit × DataW H → Nat
  | (.string bytes, d) => bytes.length + uptoBulk d + 1
  | (_, d) => uptoBulk d + 1
 end
def uptoSmall : (H : Type) → List (DataW H) → Bool := fun _ ds => decide (uptoBulkAll ds ≤ 1048576)
def OpenSpec.upto (s : _root_.Go.ChangeSpec) : _root_.Go.OpenSpec := { _root_.Go.OpenSpec.ofChange s with cond := some uptoSmall }

/-- 'backstaylaw02.FlowReduces', WHERE WHAT IT READS IS OF BULK AT MOST 1048576: true; the input reads as it did. -/
def flowReducesUptoRow : OpenClaim := { program := "ytmljmmnofhhheaa", sum := "cbbd591302d0924d61e0769c8ee0f5670ab84540e3a09c760e67be8fe895a332", func := "backstay/backstaylaw02.FlowReduces", spec := "flowReduces", unfollowed := true, recurses := true, apart := false, narrowed := true }
def FlowReducesUptoSaid : Prop := flowReducesUptoRow.holds Try.pinned (OpenSpec.upto flowReducesSpec)

/-- 'backstaylaw02.FlowOrders', WHERE WHAT IT READS IS OF BULK AT MOST 1048576: true; the input reads as it did. -/
def flowOrdersUptoRow : OpenClaim := { program := "ytmljmmnofhhheaa", sum := "cbbd591302d0924d61e0769c8ee0f5670ab84540e3a09c760e67be8fe895a332", func := "backstay/backstaylaw02.FlowOrders", spec := "flowOrders", unfollowed := true, recurses := true, apart := false, narrowed := true }
def FlowOrdersUptoSaid : Prop := flowOrdersUptoRow.holds Try.pinned (OpenSpec.upto flowOrdersSpec)

/-- 'backstaylaw02.FlowGraphs', WHERE WHAT IT READS IS OF BULK AT MOST 1048576: true; the input reads as it did. -/
def flowGraphsUptoRow : OpenClaim := { program := "ytmljmmnofhhheaa", sum := "cbbd591302d0924d61e0769c8ee0f5670ab84540e3a09c760e67be8fe895a332", func := "backstay/backstaylaw02.FlowGraphs", spec := "flowGraphs", unfollowed := true, recurses := true, apart := false, narrowed := true }
def FlowGraphsUptoSaid : Prop := flowGraphsUptoRow.holds Try.pinned (OpenSpec.upto flowGraphsSpec)

/-- 'backstaylaw02.FlowSorts', WHERE WHAT IT READS IS OF BULK AT MOST 1048576: true; the input reads as it did. -/
def flowSortsUptoRow : OpenClaim := { program := "ytmljmmnofhhheaa", sum := "cbbd591302d0924d61e0769c8ee0f5670ab84540e3a09c760e67be8fe895a332", func := "backstay/backstaylaw02.FlowSorts", spec := "flowSorts", unfollowed := true, recurses := true, apart := false, narrowed := true }
def FlowSortsUptoSaid : Prop := flowSortsUptoRow.holds Try.pinned (OpenSpec.upto flowSortsSpec)

/-- 'backstaylaw02.FlowDominates', WHERE WHAT IT READS IS OF BULK AT MOST 1048576: true; the input reads as it did. -/
def flowDominatesUptoRow : OpenClaim := { program := "ytmljmmnofhhheaa", sum := "cbbd591302d0924d61e0769c8ee0f5670ab84540e3a09c760e67be8fe895a332", func := "backstay/backstaylaw02.FlowDominates", spec := "flowDominates", unfollowed := true, recurses := true, apart := false, narrowed := true }
def FlowDominatesUptoSaid : Prop := flowDominatesUptoRow.holds Try.pinned (OpenSpec.upto flowDominatesSpec)

/-- 'backstaylaw02.FlowRenames', WHERE WHAT IT READS IS OF BULK AT MOST 1048576: true; the input reads as it did. -/
def flowRenamesUptoRow : OpenClaim := { program := "ytmljmmnofhhheaa", sum := "cbbd591302d0924d61e0769c8ee0f5670ab84540e3a09c760e67be8fe895a332", func := "backstay/backstaylaw02.FlowRenames", spec := "flowRenames", unfollowed := true, recurses := true, apart := false, narrowed := true }
def FlowRenamesUptoSaid : Prop := flowRenamesUptoRow.holds Try.pinned (OpenSpec.upto flowRenamesSpec)

/-- 'backstaylaw02.FlowParents', WHERE WHAT IT READS IS OF BULK AT MOST 1048576: true; the input reads as it did. -/
def flowParentsUptoRow : OpenClaim := { program := "ytmljmmnofhhheaa", sum := "cbbd591302d0924d61e0769c8ee0f5670ab84540e3a09c760e67be8fe895a332", func := "backstay/backstaylaw02.FlowParents", spec := "flowParents", unfollowed := true, recurses := true, apart := false, narrowed := true }
def FlowParentsUptoSaid : Prop := flowParentsUptoRow.holds Try.pinned (OpenSpec.upto flowParentsSpec)

/-- 'backstaylaw02.FlowLoops', WHERE WHAT IT READS IS OF BULK AT MOST 1048576: true; the input reads as it did. -/
def flowLoopsUptoRow : OpenClaim := { program := "ytmljmmnofhhheaa", sum := "cbbd591302d0924d61e0769c8ee0f5670ab84540e3a09c760e67be8fe895a332", func := "backstay/backstaylaw02.FlowLoops", spec := "flowLoops", unfollowed := true, recurses := true, apart := false, narrowed := true }
def FlowLoopsUptoSaid : Prop := flowLoopsUptoRow.holds Try.pinned (OpenSpec.upto flowLoopsSpec)

end Rows
end Go.Proofs.Ytmljmmnofhhheaa
