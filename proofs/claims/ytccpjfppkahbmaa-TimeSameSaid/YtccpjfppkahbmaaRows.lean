/-
  No cell of these rows narrows 'for every input' (looked for: loops, veiled, ifaces, maps, wideKeys, modest, calm, conditions, laid).
  DERIVED. THE GIVEN ROWS OF THIS SEAT. 7 by the template 'for every input the law returns true; each argument reads behind the call as it read before'; 0 by the template 'total and deterministic' (their statements: YtccpjfppkahbmaaTotals.lean).
  GIVEN WITH THE SEED: the statements are not yours to turn. If you find one false, say at which input.
  Laid BY PROGRAM, IN A SANDBOX (cutbox-rows.mjs): the forced cells as the released guide's own fill.sh prints them over the translation 403ee819b6b39e20… (all of the seat's roots in one cut). By AI agents, Wed Nov 11 2026. No macro, syntax, notation, axiom, sorry.
-/
import Derived.Test.YtccpjfppkahbmaaChecked
import GoSem.Claim
import GoSem.ClaimJoined
import GoSem.ClaimMapViews
import Derived.JoinedTies
import Derived.KernelRfl
namespace Go.Proofs.Ytccpjfppkahbmaa
/- THE CELL 'sum', in the pinned program and in every row, IS THE sha256 OF THE DUMP (.gsa) THAT YtccpjfppkahbmaaProg.lean LOADS. Nothing in Lean hashes anything: it is a label: what it is worth is what the hold of that sum in a sandbox is worth. -/
noncomputable def Try.pinned : Pinned := { name := "ytccpjfppkahbmaa", sum := "403ee819b6b39e20968b120df8e6f88f1cde33b014566a84c78d62d9e002cf48", checked := Try.checked }
namespace Rows
def none {H : Type} : Left H := { results := [], args := [] }

/-- 'backstaylaw23.TimeIssues': WHATEVER THE INPUT: true; the input reads as it did. -/
def timeIssuesSpec : ChangeSpec := { name := "timeIssues", fn := fun _ => fun
  | [d1, d2] => { results := [.lit (.bool true)], args := [d1, d2] }
  | _ => none }
def timeIssuesRow : OpenClaim := { program := "ytccpjfppkahbmaa", sum := "403ee819b6b39e20968b120df8e6f88f1cde33b014566a84c78d62d9e002cf48", func := "backstay/backstaylaw23.TimeIssues", spec := "timeIssues", unfollowed := true, recurses := true, apart := false }
def TimeIssuesSaid : Prop := timeIssuesRow.holds Try.pinned (OpenSpec.ofChange timeIssuesSpec)

/-- ITS FALSE NEIGHBOUR: 'it returns false'. Refute it at one input. -/
def timeIssuesWrong : ChangeSpec := { name := "timeIssues", fn := fun _ => fun
  | [d1, d2] => { results := [.lit (.bool false)], args := [d1, d2] }
  | _ => none }
def TimeIssuesWrongFalsely : Prop := timeIssuesRow.holds Try.pinned (OpenSpec.ofChange timeIssuesWrong)

/-- 'backstaylaw23.TimeSame': WHATEVER THE INPUT: true; the input reads as it did. -/
def timeSameSpec : ChangeSpec := { name := "timeSame", fn := fun _ => fun
  | [d1, d2, d3] => { results := [.lit (.bool true)], args := [d1, d2, d3] }
  | _ => none }
def timeSameRow : OpenClaim := { program := "ytccpjfppkahbmaa", sum := "403ee819b6b39e20968b120df8e6f88f1cde33b014566a84c78d62d9e002cf48", func := "backstay/backstaylaw23.TimeSame", spec := "timeSame", unfollowed := true, recurses := true, apart := false }
def TimeSameSaid : Prop := timeSameRow.holds Try.pinned (OpenSpec.ofChange timeSameSpec)

/-- ITS FALSE NEIGHBOUR: 'it returns false'. Refute it at one input. -/
def timeSameWrong : ChangeSpec := { name := "timeSame", fn := fun _ => fun
  | [d1, d2, d3] => { results := [.lit (.bool false)], args := [d1, d2, d3] }
  | _ => none }
def TimeSameWrongFalsely : Prop := timeSameRow.holds Try.pinned (OpenSpec.ofChange timeSameWrong)

/-- 'backstaylaw23.TimeOrders': WHATEVER THE INPUT: true; the input reads as it did. -/
def timeOrdersSpec : ChangeSpec := { name := "timeOrders", fn := fun _ => fun
  | [d1, d2] => { results := [.lit (.bool true)], args := [d1, d2] }
  | _ => none }
def timeOrdersRow : OpenClaim := { program := "ytccpjfppkahbmaa", sum := "403ee819b6b39e20968b120df8e6f88f1cde33b014566a84c78d62d9e002cf48", func := "backstay/backstaylaw23.TimeOrders", spec := "timeOrders", unfollowed := true, recurses := true, apart := false }
def TimeOrdersSaid : Prop := timeOrdersRow.holds Try.pinned (OpenSpec.ofChange timeOrdersSpec)

/-- ITS FALSE NEIGHBOUR: 'it returns false'. Refute it at one input. -/
def timeOrdersWrong : ChangeSpec := { name := "timeOrders", fn := fun _ => fun
  | [d1, d2] => { results := [.lit (.bool false)], args := [d1, d2] }
  | _ => none }
def TimeOrdersWrongFalsely : Prop := timeOrdersRow.holds Try.pinned (OpenSpec.ofChange timeOrdersWrong)

/-- 'backstaylaw23.TimeBests': WHATEVER THE INPUT: true; the input reads as it did. -/
def timeBestsSpec : ChangeSpec := { name := "timeBests", fn := fun _ => fun
  | [d] => { results := [.lit (.bool true)], args := [d] }
  | _ => none }
def timeBestsRow : OpenClaim := { program := "ytccpjfppkahbmaa", sum := "403ee819b6b39e20968b120df8e6f88f1cde33b014566a84c78d62d9e002cf48", func := "backstay/backstaylaw23.TimeBests", spec := "timeBests", unfollowed := true, recurses := true, apart := false }
def TimeBestsSaid : Prop := timeBestsRow.holds Try.pinned (OpenSpec.ofChange timeBestsSpec)

/-- ITS FALSE NEIGHBOUR: 'it returns false'. Refute it at one input. -/
def timeBestsWrong : ChangeSpec := { name := "timeBests", fn := fun _ => fun
  | [d] => { results := [.lit (.bool false)], args := [d] }
  | _ => none }
def TimeBestsWrongFalsely : Prop := timeBestsRow.holds Try.pinned (OpenSpec.ofChange timeBestsWrong)

/-- 'backstaylaw23.TimeBounds': WHATEVER THE INPUT: true; the input reads as it did. -/
def timeBoundsSpec : ChangeSpec := { name := "timeBounds", fn := fun _ => fun
  | [d1, d2] => { results := [.lit (.bool true)], args := [d1, d2] }
  | _ => none }
def timeBoundsRow : OpenClaim := { program := "ytccpjfppkahbmaa", sum := "403ee819b6b39e20968b120df8e6f88f1cde33b014566a84c78d62d9e002cf48", func := "backstay/backstaylaw23.TimeBounds", spec := "timeBounds", unfollowed := true, recurses := true, apart := false }
def TimeBoundsSaid : Prop := timeBoundsRow.holds Try.pinned (OpenSpec.ofChange timeBoundsSpec)

/-- ITS FALSE NEIGHBOUR: 'it returns false'. Refute it at one input. -/
def timeBoundsWrong : ChangeSpec := { name := "timeBounds", fn := fun _ => fun
  | [d1, d2] => { results := [.lit (.bool false)], args := [d1, d2] }
  | _ => none }
def TimeBoundsWrongFalsely : Prop := timeBoundsRow.holds Try.pinned (OpenSpec.ofChange timeBoundsWrong)

/-- 'backstaylaw23.TimeSchedules': WHATEVER THE INPUT: true; the input reads as it did. -/
def timeSchedulesSpec : ChangeSpec := { name := "timeSchedules", fn := fun _ => fun
  | [d] => { results := [.lit (.bool true)], args := [d] }
  | _ => none }
def timeSchedulesRow : OpenClaim := { program := "ytccpjfppkahbmaa", sum := "403ee819b6b39e20968b120df8e6f88f1cde33b014566a84c78d62d9e002cf48", func := "backstay/backstaylaw23.TimeSchedules", spec := "timeSchedules", unfollowed := true, recurses := true, apart := false }
def TimeSchedulesSaid : Prop := timeSchedulesRow.holds Try.pinned (OpenSpec.ofChange timeSchedulesSpec)

/-- ITS FALSE NEIGHBOUR: 'it returns false'. Refute it at one input. -/
def timeSchedulesWrong : ChangeSpec := { name := "timeSchedules", fn := fun _ => fun
  | [d] => { results := [.lit (.bool false)], args := [d] }
  | _ => none }
def TimeSchedulesWrongFalsely : Prop := timeSchedulesRow.holds Try.pinned (OpenSpec.ofChange timeSchedulesWrong)

/-- 'backstaylaw23.TimeDepends': WHATEVER THE INPUT: true; the input reads as it did. -/
def timeDependsSpec : ChangeSpec := { name := "timeDepends", fn := fun _ => fun
  | [d] => { results := [.lit (.bool true)], args := [d] }
  | _ => none }
def timeDependsRow : OpenClaim := { program := "ytccpjfppkahbmaa", sum := "403ee819b6b39e20968b120df8e6f88f1cde33b014566a84c78d62d9e002cf48", func := "backstay/backstaylaw23.TimeDepends", spec := "timeDepends", unfollowed := true, recurses := true, apart := false }
def TimeDependsSaid : Prop := timeDependsRow.holds Try.pinned (OpenSpec.ofChange timeDependsSpec)

/-- ITS FALSE NEIGHBOUR: 'it returns false'. Refute it at one input. -/
def timeDependsWrong : ChangeSpec := { name := "timeDepends", fn := fun _ => fun
  | [d] => { results := [.lit (.bool false)], args := [d] }
  | _ => none }
def TimeDependsWrongFalsely : Prop := timeDependsRow.holds Try.pinned (OpenSpec.ofChange timeDependsWrong)

/- THE SECOND FORM. 'bulk': how many values and letters a reading holds, each counted each time it is reached (what is shared counts as often as it is met; a slice's spare places count too). A statement '..UptoSaid' is the law's where the arguments, and the package variables that the reading takes, are together of bulk at most 1048576: NARROWER than '..Said'. Prove '..Said' where nothing that the law and all that it calls make is longer than what came in: it says more and counts as full. Else prove '..UptoSaid'. A law counts once. -/
mutual
def uptoBulk {H : Type} : DataW H → Nat
  | .lit (.string bytes) => bytes.length + 1
  | .lit _ => 1
  | .nil => 1
  | .ptr d => uptoBulk d + 1
  | .slice elems spare => uptoBulkAll elems + uptoBulkAll spare + 1
  | .agg parts => uptoBulkAll parts + 1
  | .iface _ d => uptoBulk d + 1
  | .map entries => uptoBulkEntries entries + 1
  | .held _ => 1
def uptoBulkAll {H : Type} : List (DataW H) → Nat
  | [] => 0
  | d :: r => uptoBulk d + uptoBulkAll r
def uptoBulkEntries {H : Type} : List (Lit × DataW H) → Nat
  | [] => 0
  | x :: r => uptoBulkEntry x + uptoBulkEntries r
def uptoBulkEntry {H : Type} : Lit × DataW H → Nat
  | (.string bytes, d) => bytes.length + uptoBulk d + 1
  | (_, d) => uptoBulk d + 1
 end
def uptoSmall : (H : Type) → List (DataW H) → Bool := fun _ ds => decide (uptoBulkAll ds ≤ 1048576)
def OpenSpec.upto (s : _root_.Go.ChangeSpec) : _root_.Go.OpenSpec := { _root_.Go.OpenSpec.ofChange s with cond := some uptoSmall }

/-- 'backstaylaw23.TimeIssues', WHERE WHAT IT READS IS OF BULK AT MOST 1048576: true; the input reads as it did. -/
def timeIssuesUptoRow : OpenClaim := { program := "ytccpjfppkahbmaa", sum := "403ee819b6b39e20968b120df8e6f88f1cde33b014566a84c78d62d9e002cf48", func := "backstay/backstaylaw23.TimeIssues", spec := "timeIssues", unfollowed := true, recurses := true, apart := false, narrowed := true }
def TimeIssuesUptoSaid : Prop := timeIssuesUptoRow.holds Try.pinned (OpenSpec.upto timeIssuesSpec)

/-- 'backstaylaw23.TimeSame', WHERE WHAT IT READS IS OF BULK AT MOST 1048576: true; the input reads as it did. -/
def timeSameUptoRow : OpenClaim := { program := "ytccpjfppkahbmaa", sum := "403ee819b6b39e20968b120df8e6f88f1cde33b014566a84c78d62d9e002cf48", func := "backstay/backstaylaw23.TimeSame", spec := "timeSame", unfollowed := true, recurses := true, apart := false, narrowed := true }
def TimeSameUptoSaid : Prop := timeSameUptoRow.holds Try.pinned (OpenSpec.upto timeSameSpec)

/-- 'backstaylaw23.TimeOrders', WHERE WHAT IT READS IS OF BULK AT MOST 1048576: true; the input reads as it did. -/
def timeOrdersUptoRow : OpenClaim := { program := "ytccpjfppkahbmaa", sum := "403ee819b6b39e20968b120df8e6f88f1cde33b014566a84c78d62d9e002cf48", func := "backstay/backstaylaw23.TimeOrders", spec := "timeOrders", unfollowed := true, recurses := true, apart := false, narrowed := true }
def TimeOrdersUptoSaid : Prop := timeOrdersUptoRow.holds Try.pinned (OpenSpec.upto timeOrdersSpec)

/-- 'backstaylaw23.TimeBests', WHERE WHAT IT READS IS OF BULK AT MOST 1048576: true; the input reads as it did. -/
def timeBestsUptoRow : OpenClaim := { program := "ytccpjfppkahbmaa", sum := "403ee819b6b39e20968b120df8e6f88f1cde33b014566a84c78d62d9e002cf48", func := "backstay/backstaylaw23.TimeBests", spec := "timeBests", unfollowed := true, recurses := true, apart := false, narrowed := true }
def TimeBestsUptoSaid : Prop := timeBestsUptoRow.holds Try.pinned (OpenSpec.upto timeBestsSpec)

/-- 'backstaylaw23.TimeBounds', WHERE WHAT IT READS IS OF BULK AT MOST 1048576: true; the input reads as it did. -/
def timeBoundsUptoRow : OpenClaim := { program := "ytccpjfppkahbmaa", sum := "403ee819b6b39e20968b120df8e6f88f1cde33b014566a84c78d62d9e002cf48", func := "backstay/backstaylaw23.TimeBounds", spec := "timeBounds", unfollowed := true, recurses := true, apart := false, narrowed := true }
def TimeBoundsUptoSaid : Prop := timeBoundsUptoRow.holds Try.pinned (OpenSpec.upto timeBoundsSpec)

/-- 'backstaylaw23.TimeSchedules', WHERE WHAT IT READS IS OF BULK AT MOST 1048576: true; the input reads as it did. -/
def timeSchedulesUptoRow : OpenClaim := { program := "ytccpjfppkahbmaa", sum := "403ee819b6b39e20968b120df8e6f88f1cde33b014566a84c78d62d9e002cf48", func := "backstay/backstaylaw23.TimeSchedules", spec := "timeSchedules", unfollowed := true, recurses := true, apart := false, narrowed := true }
def TimeSchedulesUptoSaid : Prop := timeSchedulesUptoRow.holds Try.pinned (OpenSpec.upto timeSchedulesSpec)

/-- 'backstaylaw23.TimeDepends', WHERE WHAT IT READS IS OF BULK AT MOST 1048576: true; the input reads as it did. -/
def timeDependsUptoRow : OpenClaim := { program := "ytccpjfppkahbmaa", sum := "403ee819b6b39e20968b120df8e6f88f1cde33b014566a84c78d62d9e002cf48", func := "backstay/backstaylaw23.TimeDepends", spec := "timeDepends", unfollowed := true, recurses := true, apart := false, narrowed := true }
def TimeDependsUptoSaid : Prop := timeDependsUptoRow.holds Try.pinned (OpenSpec.upto timeDependsSpec)

end Rows
end Go.Proofs.Ytccpjfppkahbmaa
