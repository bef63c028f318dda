/-
  No cell of these rows narrows 'for every input' (looked for: loops, veiled, ifaces, maps, wideKeys, modest, calm, conditions, laid).
  DERIVED. THE GIVEN ROWS OF THIS SEAT. 7 by the template 'for every input the law returns true; each argument reads behind the call as it read before'; 0 by the template 'total and deterministic' (their statements: YtoldgjieplblpaaGreatTotals.lean).
  GIVEN WITH THE SEED: the statements are not yours to turn. If you find one false, say at which input.
  Laid BY PROGRAM, IN A SANDBOX (cutbox-rows.mjs): the forced cells as the released guide's own fill.sh prints them over the translation b8e09164056ebf8d… (all of the seat's roots in one cut). By AI agents, Wed Nov 11 2026. No macro, syntax, notation, axiom, sorry.
-/
import Derived.Test.YtoldgjieplblpaaGreatChecked
import GoSem.Claim
import GoSem.ClaimJoined
import GoSem.ClaimMapViews
import Derived.JoinedTies
import Derived.KernelRfl
namespace Go.Proofs.YtoldgjieplblpaaGreat
/- THE CELL 'sum', in the pinned program and in every row, IS THE sha256 OF THE DUMP (.gsa) THAT YtoldgjieplblpaaGreatProg.lean LOADS. Nothing in Lean hashes anything: it is a label: what it is worth is what the hold of that sum in a sandbox is worth. -/
noncomputable def Tryz.pinned : Pinned := { name := "ytoldgjieplblpaagreat", sum := "b8e09164056ebf8d9eafe0b100a647fbecebeb1b13754ee1438ae74fdf051371", checked := Tryz.checked }
namespace Rows
def none {H : Type} : Left H := { results := [], args := [] }

/-- 'backstaylaw20.PickExecutes': WHATEVER THE INPUT: true; the input reads as it did. -/
def pickExecutesSpec : ChangeSpec := { name := "pickExecutes", fn := fun _ => fun
  | [d1, d2, d3] => { results := [.lit (.bool true)], args := [d1, d2, d3] }
  | _ => none }
def pickExecutesRow : OpenClaim := { program := "ytoldgjieplblpaagreat", sum := "b8e09164056ebf8d9eafe0b100a647fbecebeb1b13754ee1438ae74fdf051371", func := "backstay/backstaylaw20.PickExecutes", spec := "pickExecutes", unfollowed := true, recurses := true, apart := false }
def PickExecutesSaid : Prop := pickExecutesRow.holds Tryz.pinned (OpenSpec.ofChange pickExecutesSpec)

/-- ITS FALSE NEIGHBOUR: 'it returns false'. Refute it at one input. -/
def pickExecutesWrong : ChangeSpec := { name := "pickExecutes", fn := fun _ => fun
  | [d1, d2, d3] => { results := [.lit (.bool false)], args := [d1, d2, d3] }
  | _ => none }
def PickExecutesWrongFalsely : Prop := pickExecutesRow.holds Tryz.pinned (OpenSpec.ofChange pickExecutesWrong)

/-- 'backstaylaw20.PickMemories': WHATEVER THE INPUT: true; the input reads as it did. -/
def pickMemoriesSpec : ChangeSpec := { name := "pickMemories", fn := fun _ => fun
  | [d1, d2] => { results := [.lit (.bool true)], args := [d1, d2] }
  | _ => none }
def pickMemoriesRow : OpenClaim := { program := "ytoldgjieplblpaagreat", sum := "b8e09164056ebf8d9eafe0b100a647fbecebeb1b13754ee1438ae74fdf051371", func := "backstay/backstaylaw20.PickMemories", spec := "pickMemories", unfollowed := true, recurses := true, apart := false }
def PickMemoriesSaid : Prop := pickMemoriesRow.holds Tryz.pinned (OpenSpec.ofChange pickMemoriesSpec)

/-- ITS FALSE NEIGHBOUR: 'it returns false'. Refute it at one input. -/
def pickMemoriesWrong : ChangeSpec := { name := "pickMemories", fn := fun _ => fun
  | [d1, d2] => { results := [.lit (.bool false)], args := [d1, d2] }
  | _ => none }
def PickMemoriesWrongFalsely : Prop := pickMemoriesRow.holds Tryz.pinned (OpenSpec.ofChange pickMemoriesWrong)

/-- 'backstaylaw20.PickSays': WHATEVER THE INPUT: true; the input reads as it did. -/
def pickSaysSpec : ChangeSpec := { name := "pickSays", fn := fun _ => fun
  | [d1, d2, d3] => { results := [.lit (.bool true)], args := [d1, d2, d3] }
  | _ => none }
def pickSaysRow : OpenClaim := { program := "ytoldgjieplblpaagreat", sum := "b8e09164056ebf8d9eafe0b100a647fbecebeb1b13754ee1438ae74fdf051371", func := "backstay/backstaylaw20.PickSays", spec := "pickSays", unfollowed := true, recurses := true, apart := false }
def PickSaysSaid : Prop := pickSaysRow.holds Tryz.pinned (OpenSpec.ofChange pickSaysSpec)

/-- ITS FALSE NEIGHBOUR: 'it returns false'. Refute it at one input. -/
def pickSaysWrong : ChangeSpec := { name := "pickSays", fn := fun _ => fun
  | [d1, d2, d3] => { results := [.lit (.bool false)], args := [d1, d2, d3] }
  | _ => none }
def PickSaysWrongFalsely : Prop := pickSaysRow.holds Tryz.pinned (OpenSpec.ofChange pickSaysWrong)

/-- 'backstaylaw20.PickKeeps': WHATEVER THE INPUT: true; the input reads as it did. -/
def pickKeepsSpec : ChangeSpec := { name := "pickKeeps", fn := fun _ => fun
  | [d1, d2] => { results := [.lit (.bool true)], args := [d1, d2] }
  | _ => none }
def pickKeepsRow : OpenClaim := { program := "ytoldgjieplblpaagreat", sum := "b8e09164056ebf8d9eafe0b100a647fbecebeb1b13754ee1438ae74fdf051371", func := "backstay/backstaylaw20.PickKeeps", spec := "pickKeeps", unfollowed := true, recurses := true, apart := false }
def PickKeepsSaid : Prop := pickKeepsRow.holds Tryz.pinned (OpenSpec.ofChange pickKeepsSpec)

/-- ITS FALSE NEIGHBOUR: 'it returns false'. Refute it at one input. -/
def pickKeepsWrong : ChangeSpec := { name := "pickKeeps", fn := fun _ => fun
  | [d1, d2] => { results := [.lit (.bool false)], args := [d1, d2] }
  | _ => none }
def PickKeepsWrongFalsely : Prop := pickKeepsRow.holds Tryz.pinned (OpenSpec.ofChange pickKeepsWrong)

/-- 'backstaylaw20.PickPrograms': WHATEVER THE INPUT: true; the input reads as it did. -/
def pickProgramsSpec : ChangeSpec := { name := "pickPrograms", fn := fun _ => fun
  | [d] => { results := [.lit (.bool true)], args := [d] }
  | _ => none }
def pickProgramsRow : OpenClaim := { program := "ytoldgjieplblpaagreat", sum := "b8e09164056ebf8d9eafe0b100a647fbecebeb1b13754ee1438ae74fdf051371", func := "backstay/backstaylaw20.PickPrograms", spec := "pickPrograms", unfollowed := true, recurses := true, apart := false }
def PickProgramsSaid : Prop := pickProgramsRow.holds Tryz.pinned (OpenSpec.ofChange pickProgramsSpec)

/-- ITS FALSE NEIGHBOUR: 'it returns false'. Refute it at one input. -/
def pickProgramsWrong : ChangeSpec := { name := "pickPrograms", fn := fun _ => fun
  | [d] => { results := [.lit (.bool false)], args := [d] }
  | _ => none }
def PickProgramsWrongFalsely : Prop := pickProgramsRow.holds Tryz.pinned (OpenSpec.ofChange pickProgramsWrong)

/-- 'backstaylaw20.PickCodes': WHATEVER THE INPUT: true; the input reads as it did. -/
def pickCodesSpec : ChangeSpec := { name := "pickCodes", fn := fun _ => fun
  | [d] => { results := [.lit (.bool true)], args := [d] }
  | _ => none }
def pickCodesRow : OpenClaim := { program := "ytoldgjieplblpaagreat", sum := "b8e09164056ebf8d9eafe0b100a647fbecebeb1b13754ee1438ae74fdf051371", func := "backstay/backstaylaw20.PickCodes", spec := "pickCodes", unfollowed := true, recurses := true, apart := false }
def PickCodesSaid : Prop := pickCodesRow.holds Tryz.pinned (OpenSpec.ofChange pickCodesSpec)

/-- ITS FALSE NEIGHBOUR: 'it returns false'. Refute it at one input. -/
def pickCodesWrong : ChangeSpec := { name := "pickCodes", fn := fun _ => fun
  | [d] => { results := [.lit (.bool false)], args := [d] }
  | _ => none }
def PickCodesWrongFalsely : Prop := pickCodesRow.holds Tryz.pinned (OpenSpec.ofChange pickCodesWrong)

/-- 'backstaylaw20.PickLives': WHATEVER THE INPUT: true; the input reads as it did. -/
def pickLivesSpec : ChangeSpec := { name := "pickLives", fn := fun _ => fun
  | [d] => { results := [.lit (.bool true)], args := [d] }
  | _ => none }
def pickLivesRow : OpenClaim := { program := "ytoldgjieplblpaagreat", sum := "b8e09164056ebf8d9eafe0b100a647fbecebeb1b13754ee1438ae74fdf051371", func := "backstay/backstaylaw20.PickLives", spec := "pickLives", unfollowed := true, recurses := true, apart := false }
def PickLivesSaid : Prop := pickLivesRow.holds Tryz.pinned (OpenSpec.ofChange pickLivesSpec)

/-- ITS FALSE NEIGHBOUR: 'it returns false'. Refute it at one input. -/
def pickLivesWrong : ChangeSpec := { name := "pickLives", fn := fun _ => fun
  | [d] => { results := [.lit (.bool false)], args := [d] }
  | _ => none }
def PickLivesWrongFalsely : Prop := pickLivesRow.holds Tryz.pinned (OpenSpec.ofChange pickLivesWrong)

/- THE SECOND FORM. 'bulk': how many values and letters a reading holds, each counted each time it is reached (what is shared counts as often as it is met; a slice's spare places count too). A statement '..UptoSaid' is the law's where the arguments, and the package variables that the reading takes, are together of bulk at most 1048576: NARROWER than '..Said'. Prove '..Said' where nothing that the law and all that it calls make is longer than what came in: it says more and counts as full. Else prove '..UptoSaid'. A law counts once. -/
mutual
def uptoBulk {H : Type} : DataW H → Nat
  | .lit (.string bytes) => bytes.length + 1
  | .lit _ => 1
  | .nil => 1
  | .ptr d => uptoBulk d + 1
  | .slice elems spare => uptoBulkAll elems + uptoBulkAll spare + 1
  | .agg parts => uptoBulkAll parts + 1
  | .iface _ d => uptoBulk d + 1
  | .map entries => uptoBulkEntries entries + 1
  | .held _ => 1
def uptoBulkAll {H : Type} : List (DataW H) → Nat
  | [] => 0
  | d :: r => uptoBulk d + uptoBulkAll r
def uptoBulkEntries {H : Type} : List (Lit × DataW H) → Nat
  | [] => 0
  | x :: r => uptoBulkEntry x + uptoBulkEntries r
def uptoBulkEntry {H : Type} : Lit × DataW H → Nat
  | (.string bytes, d) => bytes.length + uptoBulk d + 1
  | (_, d) => uptoBulk d + 1
 end
def uptoSmall : (H : Type) → List (DataW H) → Bool := fun _ ds => decide (uptoBulkAll ds ≤ 1048576)
def OpenSpec.upto (s : _root_.Go.ChangeSpec) : _root_.Go.OpenSpec := { _root_.Go.OpenSpec.ofChange s with cond := some uptoSmall }

/-- 'backstaylaw20.PickExecutes', WHERE WHAT IT READS IS OF BULK AT MOST 1048576: true; the input reads as it did. -/
def pickExecutesUptoRow : OpenClaim := { program := "ytoldgjieplblpaagreat", sum := "b8e09164056ebf8d9eafe0b100a647fbecebeb1b13754ee1438ae74fdf051371", func := "backstay/backstaylaw20.PickExecutes", spec := "pickExecutes", unfollowed := true, recurses := true, apart := false, narrowed := true }
def PickExecutesUptoSaid : Prop := pickExecutesUptoRow.holds Tryz.pinned (OpenSpec.upto pickExecutesSpec)

/-- 'backstaylaw20.PickMemories', WHERE WHAT IT READS IS OF BULK AT MOST 1048576: true; the input reads as it did. -/
def pickMemoriesUptoRow : OpenClaim := { program := "ytoldgjieplblpaagreat", sum := "b8e09164056ebf8d9eafe0b100a647fbecebeb1b13754ee1438ae74fdf051371", func := "backstay/backstaylaw20.PickMemories", spec := "pickMemories", unfollowed := true, recurses := true, apart := false, narrowed := true }
def PickMemoriesUptoSaid : Prop := pickMemoriesUptoRow.holds Tryz.pinned (OpenSpec.upto pickMemoriesSpec)

/-- 'backstaylaw20.PickSays', WHERE WHAT IT READS IS OF BULK AT MOST 1048576: true; the input reads as it did. -/
def pickSaysUptoRow : OpenClaim := { program := "ytoldgjieplblpaagreat", sum := "b8e09164056ebf8d9eafe0b100a647fbecebeb1b13754ee1438ae74fdf051371", func := "backstay/backstaylaw20.PickSays", spec := "pickSays", unfollowed := true, recurses := true, apart := false, narrowed := true }
def PickSaysUptoSaid : Prop := pickSaysUptoRow.holds Tryz.pinned (OpenSpec.upto pickSaysSpec)

/-- 'backstaylaw20.PickKeeps', WHERE WHAT IT READS IS OF BULK AT MOST 1048576: true; the input reads as it did. -/
def pickKeepsUptoRow : OpenClaim := { program := "ytoldgjieplblpaagreat", sum := "b8e09164056ebf8d9eafe0b100a647fbecebeb1b13754ee1438ae74fdf051371", func := "backstay/backstaylaw20.PickKeeps", spec := "pickKeeps", unfollowed := true, recurses := true, apart := false, narrowed := true }
def PickKeepsUptoSaid : Prop := pickKeepsUptoRow.holds Tryz.pinned (OpenSpec.upto pickKeepsSpec)

/-- 'backstaylaw20.PickPrograms', WHERE WHAT IT READS IS OF BULK AT MOST 1048576: true; the input reads as it did. -/
def pickProgramsUptoRow : OpenClaim := { program := "ytoldgjieplblpaagreat", sum := "b8e09164056ebf8d9eafe0b100a647fbecebeb1b13754ee1438ae74fdf051371", func := "backstay/backstaylaw20.PickPrograms", spec := "pickPrograms", unfollowed := true, recurses := true, apart := false, narrowed := true }
def PickProgramsUptoSaid : Prop := pickProgramsUptoRow.holds Tryz.pinned (OpenSpec.upto pickProgramsSpec)

/-- 'backstaylaw20.PickCodes', WHERE WHAT IT READS IS OF BULK AT MOST 1048576: true; the input reads as it did. -/
def pickCodesUptoRow : OpenClaim := { program := "ytoldgjieplblpaagreat", sum := "b8e09164056ebf8d9eafe0b100a647fbecebeb1b13754ee1438ae74fdf051371", func := "backstay/backstaylaw20.PickCodes", spec := "pickCodes", unfollowed := true, recurses := true, apart := false, narrowed := true }
def PickCodesUptoSaid : Prop := pickCodesUptoRow.holds Tryz.pinned (OpenSpec.upto pickCodesSpec)

/-- 'backstaylaw20.PickLives', WHERE WHAT IT READS IS OF BULK AT MOST 1048576: true; the input reads as it did. -/
def pickLivesUptoRow : OpenClaim := { program := "ytoldgjieplblpaagreat", sum := "b8e09164056ebf8d9eafe0b100a647fbecebeb1b13754ee1438ae74fdf051371", func := "backstay/backstaylaw20.PickLives", spec := "pickLives", unfollowed := true, recurses := true, apart := false, narrowed := true }
def PickLivesUptoSaid : Prop := pickLivesUptoRow.holds Tryz.pinned (OpenSpec.upto pickLivesSpec)

end Rows
end Go.Proofs.YtoldgjieplblpaaGreat
