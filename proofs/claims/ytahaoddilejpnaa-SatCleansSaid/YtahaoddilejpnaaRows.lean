/-
  No cell of these rows narrows 'for every input' (looked for: loops, veiled, ifaces, maps, wideKeys, modest, calm, conditions, laid).
  DERIVED. THE GIVEN ROWS OF THIS SEAT. 7 by the template 'for every input the law returns true; each argument reads behind the call as it read before'; 0 by the template 'total and deterministic' (their statements: YtahaoddilejpnaaTotals.lean).
  GIVEN WITH THE SEED: the statements are not yours to turn. If you find one false, say at which input.
  Laid BY PROGRAM, IN A SANDBOX (cutbox-rows.mjs): the forced cells as the released guide's own fill.sh prints them over the translation 8c93774c2f481648… (all of the seat's roots in one cut). By AI agents, Wed Nov 11 2026. No macro, syntax, notation, axiom, sorry.
-/
import Derived.Test.YtahaoddilejpnaaChecked
import GoSem.Claim
import GoSem.ClaimJoined
import GoSem.ClaimMapViews
import Derived.JoinedTies
import Derived.KernelRfl
namespace Go.Proofs.Ytahaoddilejpnaa
/- THE CELL 'sum', in the pinned program and in every row, IS THE sha256 OF THE DUMP (.gsa) THAT YtahaoddilejpnaaProg.lean LOADS. Nothing in Lean hashes anything: it is a label: what it is worth is what the hold of that sum in a sandbox is worth. -/
noncomputable def Try.pinned : Pinned := { name := "ytahaoddilejpnaa", sum := "8c93774c2f481648dd25c4857ceda72c56659045e761e552e5b514f471de5061", checked := Try.checked }
namespace Rows
def none {H : Type} : Left H := { results := [], args := [] }

/-- 'backstaylaw08.SatSolves': WHATEVER THE INPUT: true; the input reads as it did. -/
def satSolvesSpec : ChangeSpec := { name := "satSolves", fn := fun _ => fun
  | [d1, d2] => { results := [.lit (.bool true)], args := [d1, d2] }
  | _ => none }
def satSolvesRow : OpenClaim := { program := "ytahaoddilejpnaa", sum := "8c93774c2f481648dd25c4857ceda72c56659045e761e552e5b514f471de5061", func := "backstay/backstaylaw08.SatSolves", spec := "satSolves", unfollowed := true, recurses := true, apart := false }
def SatSolvesSaid : Prop := satSolvesRow.holds Try.pinned (OpenSpec.ofChange satSolvesSpec)

/-- ITS FALSE NEIGHBOUR: 'it returns false'. Refute it at one input. -/
def satSolvesWrong : ChangeSpec := { name := "satSolves", fn := fun _ => fun
  | [d1, d2] => { results := [.lit (.bool false)], args := [d1, d2] }
  | _ => none }
def SatSolvesWrongFalsely : Prop := satSolvesRow.holds Try.pinned (OpenSpec.ofChange satSolvesWrong)

/-- 'backstaylaw08.SatHolds': WHATEVER THE INPUT: true; the input reads as it did. -/
def satHoldsSpec : ChangeSpec := { name := "satHolds", fn := fun _ => fun
  | [d1, d2, d3] => { results := [.lit (.bool true)], args := [d1, d2, d3] }
  | _ => none }
def satHoldsRow : OpenClaim := { program := "ytahaoddilejpnaa", sum := "8c93774c2f481648dd25c4857ceda72c56659045e761e552e5b514f471de5061", func := "backstay/backstaylaw08.SatHolds", spec := "satHolds", unfollowed := true, recurses := true, apart := false }
def SatHoldsSaid : Prop := satHoldsRow.holds Try.pinned (OpenSpec.ofChange satHoldsSpec)

/-- ITS FALSE NEIGHBOUR: 'it returns false'. Refute it at one input. -/
def satHoldsWrong : ChangeSpec := { name := "satHolds", fn := fun _ => fun
  | [d1, d2, d3] => { results := [.lit (.bool false)], args := [d1, d2, d3] }
  | _ => none }
def SatHoldsWrongFalsely : Prop := satHoldsRow.holds Try.pinned (OpenSpec.ofChange satHoldsWrong)

/-- 'backstaylaw08.SatFlips': WHATEVER THE INPUT: true; the input reads as it did. -/
def satFlipsSpec : ChangeSpec := { name := "satFlips", fn := fun _ => fun
  | [d1, d2, d3] => { results := [.lit (.bool true)], args := [d1, d2, d3] }
  | _ => none }
def satFlipsRow : OpenClaim := { program := "ytahaoddilejpnaa", sum := "8c93774c2f481648dd25c4857ceda72c56659045e761e552e5b514f471de5061", func := "backstay/backstaylaw08.SatFlips", spec := "satFlips", unfollowed := true, recurses := true, apart := false }
def SatFlipsSaid : Prop := satFlipsRow.holds Try.pinned (OpenSpec.ofChange satFlipsSpec)

/-- ITS FALSE NEIGHBOUR: 'it returns false'. Refute it at one input. -/
def satFlipsWrong : ChangeSpec := { name := "satFlips", fn := fun _ => fun
  | [d1, d2, d3] => { results := [.lit (.bool false)], args := [d1, d2, d3] }
  | _ => none }
def SatFlipsWrongFalsely : Prop := satFlipsRow.holds Try.pinned (OpenSpec.ofChange satFlipsWrong)

/-- 'backstaylaw08.SatModels': WHATEVER THE INPUT: true; the input reads as it did. -/
def satModelsSpec : ChangeSpec := { name := "satModels", fn := fun _ => fun
  | [d1, d2, d3] => { results := [.lit (.bool true)], args := [d1, d2, d3] }
  | _ => none }
def satModelsRow : OpenClaim := { program := "ytahaoddilejpnaa", sum := "8c93774c2f481648dd25c4857ceda72c56659045e761e552e5b514f471de5061", func := "backstay/backstaylaw08.SatModels", spec := "satModels", unfollowed := true, recurses := true, apart := false }
def SatModelsSaid : Prop := satModelsRow.holds Try.pinned (OpenSpec.ofChange satModelsSpec)

/-- ITS FALSE NEIGHBOUR: 'it returns false'. Refute it at one input. -/
def satModelsWrong : ChangeSpec := { name := "satModels", fn := fun _ => fun
  | [d1, d2, d3] => { results := [.lit (.bool false)], args := [d1, d2, d3] }
  | _ => none }
def SatModelsWrongFalsely : Prop := satModelsRow.holds Try.pinned (OpenSpec.ofChange satModelsWrong)

/-- 'backstaylaw08.SatAssigns': WHATEVER THE INPUT: true; the input reads as it did. -/
def satAssignsSpec : ChangeSpec := { name := "satAssigns", fn := fun _ => fun
  | [d1, d2, d3] => { results := [.lit (.bool true)], args := [d1, d2, d3] }
  | _ => none }
def satAssignsRow : OpenClaim := { program := "ytahaoddilejpnaa", sum := "8c93774c2f481648dd25c4857ceda72c56659045e761e552e5b514f471de5061", func := "backstay/backstaylaw08.SatAssigns", spec := "satAssigns", unfollowed := true, recurses := true, apart := false }
def SatAssignsSaid : Prop := satAssignsRow.holds Try.pinned (OpenSpec.ofChange satAssignsSpec)

/-- ITS FALSE NEIGHBOUR: 'it returns false'. Refute it at one input. -/
def satAssignsWrong : ChangeSpec := { name := "satAssigns", fn := fun _ => fun
  | [d1, d2, d3] => { results := [.lit (.bool false)], args := [d1, d2, d3] }
  | _ => none }
def SatAssignsWrongFalsely : Prop := satAssignsRow.holds Try.pinned (OpenSpec.ofChange satAssignsWrong)

/-- 'backstaylaw08.SatPures': WHATEVER THE INPUT: true; the input reads as it did. -/
def satPuresSpec : ChangeSpec := { name := "satPures", fn := fun _ => fun
  | [d1, d2] => { results := [.lit (.bool true)], args := [d1, d2] }
  | _ => none }
def satPuresRow : OpenClaim := { program := "ytahaoddilejpnaa", sum := "8c93774c2f481648dd25c4857ceda72c56659045e761e552e5b514f471de5061", func := "backstay/backstaylaw08.SatPures", spec := "satPures", unfollowed := true, recurses := true, apart := false }
def SatPuresSaid : Prop := satPuresRow.holds Try.pinned (OpenSpec.ofChange satPuresSpec)

/-- ITS FALSE NEIGHBOUR: 'it returns false'. Refute it at one input. -/
def satPuresWrong : ChangeSpec := { name := "satPures", fn := fun _ => fun
  | [d1, d2] => { results := [.lit (.bool false)], args := [d1, d2] }
  | _ => none }
def SatPuresWrongFalsely : Prop := satPuresRow.holds Try.pinned (OpenSpec.ofChange satPuresWrong)

/-- 'backstaylaw08.SatCleans': WHATEVER THE INPUT: true; the input reads as it did. -/
def satCleansSpec : ChangeSpec := { name := "satCleans", fn := fun _ => fun
  | [d1, d2] => { results := [.lit (.bool true)], args := [d1, d2] }
  | _ => none }
def satCleansRow : OpenClaim := { program := "ytahaoddilejpnaa", sum := "8c93774c2f481648dd25c4857ceda72c56659045e761e552e5b514f471de5061", func := "backstay/backstaylaw08.SatCleans", spec := "satCleans", unfollowed := true, recurses := true, apart := false }
def SatCleansSaid : Prop := satCleansRow.holds Try.pinned (OpenSpec.ofChange satCleansSpec)

/-- ITS FALSE NEIGHBOUR: 'it returns false'. Refute it at one input. -/
def satCleansWrong : ChangeSpec := { name := "satCleans", fn := fun _ => fun
  | [d1, d2] => { results := [.lit (.bool false)], args := [d1, d2] }
  | _ => none }
def SatCleansWrongFalsely : Prop := satCleansRow.holds Try.pinned (OpenSpec.ofChange satCleansWrong)

/- THE SECOND FORM. 'bulk': how many values and letters a reading holds, each counted each time it is reached (what is shared counts as often as it is met; a slice's spare places count too). A statement '..UptoSaid' is the law's where the arguments, and the package variables that the reading takes, are together of bulk at most 1048576: NARROWER than '..Said'. Prove '..Said' where nothing that the law and all that it calls make is longer than what came in: it says more and counts as full. Else prove '..UptoSaid'. A law counts once. -/
mutual
def uptoBulk {H : Type} : DataW H → Nat
  | .lit (.string bytes) => bytes.length + 1
  | .lit _ => 1
  | .nil => 1
  | .ptr d => uptoBulk d + 1
  | .slice elems spare => uptoBulkAll elems + uptoBulkAll spare + 1
  | .agg parts => uptoBulkAll parts + 1
  | .iface _ d => uptoBulk d + 1
  | .map entries => uptoBulkEntries entries + 1
  | .held _ => 1
def uptoBulkAll {H : Type} : List (DataW H) → Nat
  | [] => 0
  | d :: r => uptoBulk d + uptoBulkAll r
def uptoBulkEntries {H : Type} : List (Lit × DataW H) → Nat
  | [] => 0
  | x :: r => uptoBulkEntry x + uptoBulkEntries r
def uptoBulkEntry {H : Type} : Lit × DataW H → Nat
  | (.string bytes, d) => bytes.length + uptoBulk d + 1
  | (_, d) => uptoBulk d + 1
 end
def uptoSmall : (H : Type) → List (DataW H) → Bool := fun _ ds => decide (uptoBulkAll ds ≤ 1048576)
def OpenSpec.upto (s : _root_.Go.ChangeSpec) : _root_.Go.OpenSpec := { _root_.Go.OpenSpec.ofChange s with cond := some uptoSmall }

/-- 'backstaylaw08.SatSolves', WHERE WHAT IT READS IS OF BULK AT MOST 1048576: true; the input reads as it did. -/
def satSolvesUptoRow : OpenClaim := { program := "ytahaoddilejpnaa", sum := "8c93774c2f481648dd25c4857ceda72c56659045e761e552e5b514f471de5061", func := "backstay/backstaylaw08.SatSolves", spec := "satSolves", unfollowed := true, recurses := true, apart := false, narrowed := true }
def SatSolvesUptoSaid : Prop := satSolvesUptoRow.holds Try.pinned (OpenSpec.upto satSolvesSpec)

/-- 'backstaylaw08.SatHolds', WHERE WHAT IT READS IS OF BULK AT MOST 1048576: true; the input reads as it did. -/
def satHoldsUptoRow : OpenClaim := { program := "ytahaoddilejpnaa", sum := "8c93774c2f481648dd25c4857ceda72c56659045e761e552e5b514f471de5061", func := "backstay/backstaylaw08.SatHolds", spec := "satHolds", unfollowed := true, recurses := true, apart := false, narrowed := true }
def SatHoldsUptoSaid : Prop := satHoldsUptoRow.holds Try.pinned (OpenSpec.upto satHoldsSpec)

/-- 'backstaylaw08.SatFlips', WHERE WHAT IT READS IS OF BULK AT MOST 1048576: true; the input reads as it did. -/
def satFlipsUptoRow : OpenClaim := { program := "ytahaoddilejpnaa", sum := "8c93774c2f481648dd25c4857ceda72c56659045e761e552e5b514f471de5061", func := "backstay/backstaylaw08.SatFlips", spec := "satFlips", unfollowed := true, recurses := true, apart := false, narrowed := true }
def SatFlipsUptoSaid : Prop := satFlipsUptoRow.holds Try.pinned (OpenSpec.upto satFlipsSpec)

/-- 'backstaylaw08.SatModels', WHERE WHAT IT READS IS OF BULK AT MOST 1048576: true; the input reads as it did. -/
def satModelsUptoRow : OpenClaim := { program := "ytahaoddilejpnaa", sum := "8c93774c2f481648dd25c4857ceda72c56659045e761e552e5b514f471de5061", func := "backstay/backstaylaw08.SatModels", spec := "satModels", unfollowed := true, recurses := true, apart := false, narrowed := true }
def SatModelsUptoSaid : Prop := satModelsUptoRow.holds Try.pinned (OpenSpec.upto satModelsSpec)

/-- 'backstaylaw08.SatAssigns', WHERE WHAT IT READS IS OF BULK AT MOST 1048576: true; the input reads as it did. -/
def satAssignsUptoRow : OpenClaim := { program := "ytahaoddilejpnaa", sum := "8c93774c2f481648dd25c4857ceda72c56659045e761e552e5b514f471de5061", func := "backstay/backstaylaw08.SatAssigns", spec := "satAssigns", unfollowed := true, recurses := true, apart := false, narrowed := true }
def SatAssignsUptoSaid : Prop := satAssignsUptoRow.holds Try.pinned (OpenSpec.upto satAssignsSpec)

/-- 'backstaylaw08.SatPures', WHERE WHAT IT READS IS OF BULK AT MOST 1048576: true; the input reads as it did. -/
def satPuresUptoRow : OpenClaim := { program := "ytahaoddilejpnaa", sum := "8c93774c2f481648dd25c4857ceda72c56659045e761e552e5b514f471de5061", func := "backstay/backstaylaw08.SatPures", spec := "satPures", unfollowed := true, recurses := true, apart := false, narrowed := true }
def SatPuresUptoSaid : Prop := satPuresUptoRow.holds Try.pinned (OpenSpec.upto satPuresSpec)

/-- 'backstaylaw08.SatCleans', WHERE WHAT IT READS IS OF BULK AT MOST 1048576: true; the input reads as it did. -/
def satCleansUptoRow : OpenClaim := { program := "ytahaoddilejpnaa", sum := "8c93774c2f481648dd25c4857ceda72c56659045e761e552e5b514f471de5061", func := "backstay/backstaylaw08.SatCleans", spec := "satCleans", unfollowed := true, recurses := true, apart := false, narrowed := true }
def SatCleansUptoSaid : Prop := satCleansUptoRow.holds Try.pinned (OpenSpec.upto satCleansSpec)

end Rows
end Go.Proofs.Ytahaoddilejpnaa
