/-
  No cell of these rows narrows 'for every input' (looked for: loops, veiled, ifaces, maps, wideKeys, modest, calm, conditions, laid).
  DERIVED. THE GIVEN ROWS OF THIS SEAT. 10 by the template 'for every input the law returns true; each argument reads behind the call as it read before'; 0 by the template 'total and deterministic' (their statements: YtmhneonebjcieaaTotals.lean).
  GIVEN WITH THE SEED: the statements are not yours to turn. If you find one false, say at which input.
  Laid BY PROGRAM, IN A SANDBOX (cutbox-rows.mjs): the forced cells as the released guide's own fill.sh prints them over the translation 8e99fbc69db1d9d8… (all of the seat's roots in one cut). By AI agents, Wed Nov 11 2026. No macro, syntax, notation, axiom, sorry.
-/
import Derived.Test.YtmhneonebjcieaaChecked
import GoSem.Claim
import GoSem.ClaimJoined
import GoSem.ClaimMapViews
import Derived.JoinedTies
import Derived.KernelRfl
namespace Go.Proofs.Ytmhneonebjcieaa
/- THE CELL 'sum', in the pinned program and in every row, IS THE sha256 OF THE DUMP (.gsa) THAT YtmhneonebjcieaaProg.lean LOADS. Nothing in Lean hashes anything: it is a label: what it is worth is what the hold of that sum in a sandbox is worth. -/
noncomputable def Try.pinned : Pinned := { name := "ytmhneonebjcieaa", sum := "8e99fbc69db1d9d81e68310755d2031cb7ba72c6ef11cc156c7a04abc57bff3c", checked := Try.checked }
namespace Rows
def none {H : Type} : Left H := { results := [], args := [] }

/-- 'backstaylaw24.TraceEncodes': WHATEVER THE INPUT: true; the input reads as it did. -/
def traceEncodesSpec : ChangeSpec := { name := "traceEncodes", fn := fun _ => fun
  | [d] => { results := [.lit (.bool true)], args := [d] }
  | _ => none }
def traceEncodesRow : OpenClaim := { program := "ytmhneonebjcieaa", sum := "8e99fbc69db1d9d81e68310755d2031cb7ba72c6ef11cc156c7a04abc57bff3c", func := "backstay/backstaylaw24.TraceEncodes", spec := "traceEncodes", unfollowed := true, recurses := true, plainKeys := false, apart := false }
def TraceEncodesSaid : Prop := traceEncodesRow.holds Try.pinned (OpenSpec.ofChange traceEncodesSpec)

/-- ITS FALSE NEIGHBOUR: 'it returns false'. Refute it at one input. -/
def traceEncodesWrong : ChangeSpec := { name := "traceEncodes", fn := fun _ => fun
  | [d] => { results := [.lit (.bool false)], args := [d] }
  | _ => none }
def TraceEncodesWrongFalsely : Prop := traceEncodesRow.holds Try.pinned (OpenSpec.ofChange traceEncodesWrong)

/-- 'backstaylaw24.TraceDecodes': WHATEVER THE INPUT: true; the input reads as it did. -/
def traceDecodesSpec : ChangeSpec := { name := "traceDecodes", fn := fun _ => fun
  | [d] => { results := [.lit (.bool true)], args := [d] }
  | _ => none }
def traceDecodesRow : OpenClaim := { program := "ytmhneonebjcieaa", sum := "8e99fbc69db1d9d81e68310755d2031cb7ba72c6ef11cc156c7a04abc57bff3c", func := "backstay/backstaylaw24.TraceDecodes", spec := "traceDecodes", unfollowed := true, recurses := true, plainKeys := false, apart := false }
def TraceDecodesSaid : Prop := traceDecodesRow.holds Try.pinned (OpenSpec.ofChange traceDecodesSpec)

/-- ITS FALSE NEIGHBOUR: 'it returns false'. Refute it at one input. -/
def traceDecodesWrong : ChangeSpec := { name := "traceDecodes", fn := fun _ => fun
  | [d] => { results := [.lit (.bool false)], args := [d] }
  | _ => none }
def TraceDecodesWrongFalsely : Prop := traceDecodesRow.holds Try.pinned (OpenSpec.ofChange traceDecodesWrong)

/-- 'backstaylaw24.TraceSpoils': WHATEVER THE INPUT: true; the input reads as it did. -/
def traceSpoilsSpec : ChangeSpec := { name := "traceSpoils", fn := fun _ => fun
  | [d1, d2, d3] => { results := [.lit (.bool true)], args := [d1, d2, d3] }
  | _ => none }
def traceSpoilsRow : OpenClaim := { program := "ytmhneonebjcieaa", sum := "8e99fbc69db1d9d81e68310755d2031cb7ba72c6ef11cc156c7a04abc57bff3c", func := "backstay/backstaylaw24.TraceSpoils", spec := "traceSpoils", unfollowed := true, recurses := true, plainKeys := false, apart := false }
def TraceSpoilsSaid : Prop := traceSpoilsRow.holds Try.pinned (OpenSpec.ofChange traceSpoilsSpec)

/-- ITS FALSE NEIGHBOUR: 'it returns false'. Refute it at one input. -/
def traceSpoilsWrong : ChangeSpec := { name := "traceSpoils", fn := fun _ => fun
  | [d1, d2, d3] => { results := [.lit (.bool false)], args := [d1, d2, d3] }
  | _ => none }
def TraceSpoilsWrongFalsely : Prop := traceSpoilsRow.holds Try.pinned (OpenSpec.ofChange traceSpoilsWrong)

/-- 'backstaylaw24.TraceShifts': WHATEVER THE INPUT: true; the input reads as it did. -/
def traceShiftsSpec : ChangeSpec := { name := "traceShifts", fn := fun _ => fun
  | [d1, d2] => { results := [.lit (.bool true)], args := [d1, d2] }
  | _ => none }
def traceShiftsRow : OpenClaim := { program := "ytmhneonebjcieaa", sum := "8e99fbc69db1d9d81e68310755d2031cb7ba72c6ef11cc156c7a04abc57bff3c", func := "backstay/backstaylaw24.TraceShifts", spec := "traceShifts", unfollowed := true, recurses := true, plainKeys := false, apart := false }
def TraceShiftsSaid : Prop := traceShiftsRow.holds Try.pinned (OpenSpec.ofChange traceShiftsSpec)

/-- ITS FALSE NEIGHBOUR: 'it returns false'. Refute it at one input. -/
def traceShiftsWrong : ChangeSpec := { name := "traceShifts", fn := fun _ => fun
  | [d1, d2] => { results := [.lit (.bool false)], args := [d1, d2] }
  | _ => none }
def TraceShiftsWrongFalsely : Prop := traceShiftsRow.holds Try.pinned (OpenSpec.ofChange traceShiftsWrong)

/-- 'backstaylaw24.TraceFinds': WHATEVER THE INPUT: true; the input reads as it did. -/
def traceFindsSpec : ChangeSpec := { name := "traceFinds", fn := fun _ => fun
  | [d1, d2, d3] => { results := [.lit (.bool true)], args := [d1, d2, d3] }
  | _ => none }
def traceFindsRow : OpenClaim := { program := "ytmhneonebjcieaa", sum := "8e99fbc69db1d9d81e68310755d2031cb7ba72c6ef11cc156c7a04abc57bff3c", func := "backstay/backstaylaw24.TraceFinds", spec := "traceFinds", unfollowed := true, recurses := true, plainKeys := false, apart := false }
def TraceFindsSaid : Prop := traceFindsRow.holds Try.pinned (OpenSpec.ofChange traceFindsSpec)

/-- ITS FALSE NEIGHBOUR: 'it returns false'. Refute it at one input. -/
def traceFindsWrong : ChangeSpec := { name := "traceFinds", fn := fun _ => fun
  | [d1, d2, d3] => { results := [.lit (.bool false)], args := [d1, d2, d3] }
  | _ => none }
def TraceFindsWrongFalsely : Prop := traceFindsRow.holds Try.pinned (OpenSpec.ofChange traceFindsWrong)

/-- 'backstaylaw24.TraceMerges': WHATEVER THE INPUT: true; the input reads as it did. -/
def traceMergesSpec : ChangeSpec := { name := "traceMerges", fn := fun _ => fun
  | [d1, d2, d3] => { results := [.lit (.bool true)], args := [d1, d2, d3] }
  | _ => none }
def traceMergesRow : OpenClaim := { program := "ytmhneonebjcieaa", sum := "8e99fbc69db1d9d81e68310755d2031cb7ba72c6ef11cc156c7a04abc57bff3c", func := "backstay/backstaylaw24.TraceMerges", spec := "traceMerges", unfollowed := true, recurses := true, plainKeys := false, apart := false }
def TraceMergesSaid : Prop := traceMergesRow.holds Try.pinned (OpenSpec.ofChange traceMergesSpec)

/-- ITS FALSE NEIGHBOUR: 'it returns false'. Refute it at one input. -/
def traceMergesWrong : ChangeSpec := { name := "traceMerges", fn := fun _ => fun
  | [d1, d2, d3] => { results := [.lit (.bool false)], args := [d1, d2, d3] }
  | _ => none }
def TraceMergesWrongFalsely : Prop := traceMergesRow.holds Try.pinned (OpenSpec.ofChange traceMergesWrong)

/-- 'backstaylaw24.TraceTables': WHATEVER THE INPUT: true; the input reads as it did. -/
def traceTablesSpec : ChangeSpec := { name := "traceTables", fn := fun _ => fun
  | [d1, d2] => { results := [.lit (.bool true)], args := [d1, d2] }
  | _ => none }
def traceTablesRow : OpenClaim := { program := "ytmhneonebjcieaa", sum := "8e99fbc69db1d9d81e68310755d2031cb7ba72c6ef11cc156c7a04abc57bff3c", func := "backstay/backstaylaw24.TraceTables", spec := "traceTables", unfollowed := true, recurses := true, plainKeys := false, apart := false }
def TraceTablesSaid : Prop := traceTablesRow.holds Try.pinned (OpenSpec.ofChange traceTablesSpec)

/-- ITS FALSE NEIGHBOUR: 'it returns false'. Refute it at one input. -/
def traceTablesWrong : ChangeSpec := { name := "traceTables", fn := fun _ => fun
  | [d1, d2] => { results := [.lit (.bool false)], args := [d1, d2] }
  | _ => none }
def TraceTablesWrongFalsely : Prop := traceTablesRow.holds Try.pinned (OpenSpec.ofChange traceTablesWrong)

/-- 'backstaylaw24.TraceHoles': WHATEVER THE INPUT: true; the input reads as it did. -/
def traceHolesSpec : ChangeSpec := { name := "traceHoles", fn := fun _ => fun
  | [d1, d2, d3] => { results := [.lit (.bool true)], args := [d1, d2, d3] }
  | _ => none }
def traceHolesRow : OpenClaim := { program := "ytmhneonebjcieaa", sum := "8e99fbc69db1d9d81e68310755d2031cb7ba72c6ef11cc156c7a04abc57bff3c", func := "backstay/backstaylaw24.TraceHoles", spec := "traceHoles", unfollowed := true, recurses := true, plainKeys := false, apart := false }
def TraceHolesSaid : Prop := traceHolesRow.holds Try.pinned (OpenSpec.ofChange traceHolesSpec)

/-- ITS FALSE NEIGHBOUR: 'it returns false'. Refute it at one input. -/
def traceHolesWrong : ChangeSpec := { name := "traceHoles", fn := fun _ => fun
  | [d1, d2, d3] => { results := [.lit (.bool false)], args := [d1, d2, d3] }
  | _ => none }
def TraceHolesWrongFalsely : Prop := traceHolesRow.holds Try.pinned (OpenSpec.ofChange traceHolesWrong)

/-- 'backstaylaw24.TraceValues': WHATEVER THE INPUT: true; the input reads as it did. -/
def traceValuesSpec : ChangeSpec := { name := "traceValues", fn := fun _ => fun
  | [d1, d2, d3] => { results := [.lit (.bool true)], args := [d1, d2, d3] }
  | _ => none }
def traceValuesRow : OpenClaim := { program := "ytmhneonebjcieaa", sum := "8e99fbc69db1d9d81e68310755d2031cb7ba72c6ef11cc156c7a04abc57bff3c", func := "backstay/backstaylaw24.TraceValues", spec := "traceValues", unfollowed := true, recurses := true, plainKeys := false, apart := false }
def TraceValuesSaid : Prop := traceValuesRow.holds Try.pinned (OpenSpec.ofChange traceValuesSpec)

/-- ITS FALSE NEIGHBOUR: 'it returns false'. Refute it at one input. -/
def traceValuesWrong : ChangeSpec := { name := "traceValues", fn := fun _ => fun
  | [d1, d2, d3] => { results := [.lit (.bool false)], args := [d1, d2, d3] }
  | _ => none }
def TraceValuesWrongFalsely : Prop := traceValuesRow.holds Try.pinned (OpenSpec.ofChange traceValuesWrong)

/-- 'backstaylaw24.TraceCuts': WHATEVER THE INPUT: true; the input reads as it did. -/
def traceCutsSpec : ChangeSpec := { name := "traceCuts", fn := fun _ => fun
  | [d1, d2, d3] => { results := [.lit (.bool true)], args := [d1, d2, d3] }
  | _ => none }
def traceCutsRow : OpenClaim := { program := "ytmhneonebjcieaa", sum := "8e99fbc69db1d9d81e68310755d2031cb7ba72c6ef11cc156c7a04abc57bff3c", func := "backstay/backstaylaw24.TraceCuts", spec := "traceCuts", unfollowed := true, recurses := true, plainKeys := false, apart := false }
def TraceCutsSaid : Prop := traceCutsRow.holds Try.pinned (OpenSpec.ofChange traceCutsSpec)

/-- ITS FALSE NEIGHBOUR: 'it returns false'. Refute it at one input. -/
def traceCutsWrong : ChangeSpec := { name := "traceCuts", fn := fun _ => fun
  | [d1, d2, d3] => { results := [.lit (.bool false)], args := [d1, d2, d3] }
  | _ => none }
def TraceCutsWrongFalsely : Prop := traceCutsRow.holds Try.pinned (OpenSpec.ofChange traceCutsWrong)

/- THE SECOND FORM. 'bulk': how many values and letters a reading holds, each counted each time it is reached (what is shared counts as often as it is met; a slice's spare places count too). A statement '..UptoSaid' is the law's where the arguments, and the package variables that the reading takes, are together of bulk at most 1048576: NARROWER than '..Said'. Prove '..Said' where nothing that the law and all that it calls make is longer than what came in: it says more and counts as full. Else prove '..UptoSaid'. A law counts once. -/
mutual
def uptoBulk {H : Type} : DataW H → Nat
  | .lit (.string bytes) => bytes.length + 1
  | .lit _ => 1
  | .nil => 1
  | .ptr d => uptoBulk d + 1
  | .slice elems spare => uptoBulkAll elems + uptoBulkAll spare + 1
  | .agg parts => uptoBulkAll parts + 1
  | .iface _ d => uptoBulk d + 1
  | .map entries => uptoBulkEntries entries + 1
  | .held _ => 1
def uptoBulkAll {H : Type} : List (DataW H) → Nat
  | [] => 0
  | d :: r => uptoBulk d + uptoBulkAll r
def uptoBulkEntries {H : Type} : List (Lit × DataW H) → Nat
  | [] => 0
  | x :: r => uptoBulkEntry x + uptoBulkEntries r
def uptoBulkEntry {H : Type} : Lit × DataW H → Nat
  | (.string bytes, d) => bytes.length + uptoBulk d + 1
  | (_, d) => uptoBulk d + 1
 end
def uptoSmall : (H : Type) → List (DataW H) → Bool := fun _ ds => decide (uptoBulkAll ds ≤ 1048576)
def OpenSpec.upto (s : _root_.Go.ChangeSpec) : _root_.Go.OpenSpec := { _root_.Go.OpenSpec.ofChange s with cond := some uptoSmall }

/-- 'backstaylaw24.TraceEncodes', WHERE WHAT IT READS IS OF BULK AT MOST 1048576: true; the input reads as it did. -/
def traceEncodesUptoRow : OpenClaim := { program := "ytmhneonebjcieaa", sum := "8e99fbc69db1d9d81e68310755d2031cb7ba72c6ef11cc156c7a04abc57bff3c", func := "backstay/backstaylaw24.TraceEncodes", spec := "traceEncodes", unfollowed := true, recurses := true, plainKeys := false, apart := false, narrowed := true }
def TraceEncodesUptoSaid : Prop := traceEncodesUptoRow.holds Try.pinned (OpenSpec.upto traceEncodesSpec)

/-- 'backstaylaw24.TraceDecodes', WHERE WHAT IT READS IS OF BULK AT MOST 1048576: true; the input reads as it did. -/
def traceDecodesUptoRow : OpenClaim := { program := "ytmhneonebjcieaa", sum := "8e99fbc69db1d9d81e68310755d2031cb7ba72c6ef11cc156c7a04abc57bff3c", func := "backstay/backstaylaw24.TraceDecodes", spec := "traceDecodes", unfollowed := true, recurses := true, plainKeys := false, apart := false, narrowed := true }
def TraceDecodesUptoSaid : Prop := traceDecodesUptoRow.holds Try.pinned (OpenSpec.upto traceDecodesSpec)

/-- 'backstaylaw24.TraceSpoils', WHERE WHAT IT READS IS OF BULK AT MOST 1048576: true; the input reads as it did. -/
def traceSpoilsUptoRow : OpenClaim := { program := "ytmhneonebjcieaa", sum := "8e99fbc69db1d9d81e68310755d2031cb7ba72c6ef11cc156c7a04abc57bff3c", func := "backstay/backstaylaw24.TraceSpoils", spec := "traceSpoils", unfollowed := true, recurses := true, plainKeys := false, apart := false, narrowed := true }
def TraceSpoilsUptoSaid : Prop := traceSpoilsUptoRow.holds Try.pinned (OpenSpec.upto traceSpoilsSpec)

/-- 'backstaylaw24.TraceShifts', WHERE WHAT IT READS IS OF BULK AT MOST 1048576: true; the input reads as it did. -/
def traceShiftsUptoRow : OpenClaim := { program := "ytmhneonebjcieaa", sum := "8e99fbc69db1d9d81e68310755d2031cb7ba72c6ef11cc156c7a04abc57bff3c", func := "backstay/backstaylaw24.TraceShifts", spec := "traceShifts", unfollowed := true, recurses := true, plainKeys := false, apart := false, narrowed := true }
def TraceShiftsUptoSaid : Prop := traceShiftsUptoRow.holds Try.pinned (OpenSpec.upto traceShiftsSpec)

/-- 'backstaylaw24.TraceFinds', WHERE WHAT IT READS IS OF BULK AT MOST 1048576: true; the input reads as it did. -/
def traceFindsUptoRow : OpenClaim := { program := "ytmhneonebjcieaa", sum := "8e99fbc69db1d9d81e68310755d2031cb7ba72c6ef11cc156c7a04abc57bff3c", func := "backstay/backstaylaw24.TraceFinds", spec := "traceFinds", unfollowed := true, recurses := true, plainKeys := false, apart := false, narrowed := true }
def TraceFindsUptoSaid : Prop := traceFindsUptoRow.holds Try.pinned (OpenSpec.upto traceFindsSpec)

/-- 'backstaylaw24.TraceMerges', WHERE WHAT IT READS IS OF BULK AT MOST 1048576: true; the input reads as it did. -/
def traceMergesUptoRow : OpenClaim := { program := "ytmhneonebjcieaa", sum := "8e99fbc69db1d9d81e68310755d2031cb7ba72c6ef11cc156c7a04abc57bff3c", func := "backstay/backstaylaw24.TraceMerges", spec := "traceMerges", unfollowed := true, recurses := true, plainKeys := false, apart := false, narrowed := true }
def TraceMergesUptoSaid : Prop := traceMergesUptoRow.holds Try.pinned (OpenSpec.upto traceMergesSpec)

/-- 'backstaylaw24.TraceTables', WHERE WHAT IT READS IS OF BULK AT MOST 1048576: true; the input reads as it did. -/
def traceTablesUptoRow : OpenClaim := { program := "ytmhneonebjcieaa", sum := "8e99fbc69db1d9d81e68310755d2031cb7ba72c6ef11cc156c7a04abc57bff3c", func := "backstay/backstaylaw24.TraceTables", spec := "traceTables", unfollowed := true, recurses := true, plainKeys := false, apart := false, narrowed := true }
def TraceTablesUptoSaid : Prop := traceTablesUptoRow.holds Try.pinned (OpenSpec.upto traceTablesSpec)

/-- 'backstaylaw24.TraceHoles', WHERE WHAT IT READS IS OF BULK AT MOST 1048576: true; the input reads as it did. -/
def traceHolesUptoRow : OpenClaim := { program := "ytmhneonebjcieaa", sum := "8e99fbc69db1d9d81e68310755d2031cb7ba72c6ef11cc156c7a04abc57bff3c", func := "backstay/backstaylaw24.TraceHoles", spec := "traceHoles", unfollowed := true, recurses := true, plainKeys := false, apart := false, narrowed := true }
def TraceHolesUptoSaid : Prop := traceHolesUptoRow.holds Try.pinned (OpenSpec.upto traceHolesSpec)

/-- 'backstaylaw24.TraceValues', WHERE WHAT IT READS IS OF BULK AT MOST 1048576: true; the input reads as it did. -/
def traceValuesUptoRow : OpenClaim := { program := "ytmhneonebjcieaa", sum := "8e99fbc69db1d9d81e68310755d2031cb7ba72c6ef11cc156c7a04abc57bff3c", func := "backstay/backstaylaw24.TraceValues", spec := "traceValues", unfollowed := true, recurses := true, plainKeys := false, apart := false, narrowed := true }
def TraceValuesUptoSaid : Prop := traceValuesUptoRow.holds Try.pinned (OpenSpec.upto traceValuesSpec)

/-- 'backstaylaw24.TraceCuts', WHERE WHAT IT READS IS OF BULK AT MOST 1048576: true; the input reads as it did. -/
def traceCutsUptoRow : OpenClaim := { program := "ytmhneonebjcieaa", sum := "8e99fbc69db1d9d81e68310755d2031cb7ba72c6ef11cc156c7a04abc57bff3c", func := "backstay/backstaylaw24.TraceCuts", spec := "traceCuts", unfollowed := true, recurses := true, plainKeys := false, apart := false, narrowed := true }
def TraceCutsUptoSaid : Prop := traceCutsUptoRow.holds Try.pinned (OpenSpec.upto traceCutsSpec)

end Rows
end Go.Proofs.Ytmhneonebjcieaa
