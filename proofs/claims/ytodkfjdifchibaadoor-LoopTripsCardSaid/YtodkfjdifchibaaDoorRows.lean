/-
  NARROWER THAN 'FOR EVERY INPUT', by the rows' own cells (each row's printed sentence says how): LoopTrips: laid · LoopEnds: laid · LoopSums: laid · LoopPowers: laid.
  DERIVED. THE GIVEN ROWS OF THIS SEAT. 4 by the template 'for every input the law returns true; each argument reads behind the call as it read before'; 0 by the template 'total and deterministic' (their statements: YtodkfjdifchibaaDoorTotals.lean).
  GIVEN WITH THE SEED: the statements are not yours to turn. If you find one false, say at which input.
  Laid BY PROGRAM, IN A SANDBOX (cutbox-rows.mjs): the forced cells as the released guide's own fill.sh prints them over the translation ed446a27adb074fe… (all of the seat's roots in one cut). By AI agents, Wed Nov 11 2026. No macro, syntax, notation, axiom, sorry.
-/
import Derived.Test.YtodkfjdifchibaaDoorChecked
import GoSem.Claim
import GoSem.ClaimJoined
import GoSem.ClaimMapViews
import Derived.JoinedTies
import Derived.KernelRfl
namespace Go.Proofs.YtodkfjdifchibaaDoor
/- THE CELL 'sum', in the pinned program and in every row, IS THE sha256 OF THE DUMP (.gsa) THAT YtodkfjdifchibaaDoorProg.lean LOADS. Nothing in Lean hashes anything: it is a label: what it is worth is what the hold of that sum in a sandbox is worth. -/
noncomputable def Tryd.pinned : Pinned := { name := "ytodkfjdifchibaadoor", sum := "ed446a27adb074fe38ed4eeec6ae439e5696d6d5296aa887e18b2a099f944f29", checked := Tryd.checked }
namespace Rows
def none {H : Type} : Left H := { results := [], args := [] }

/- WHAT THE LISTED PACKAGE-LEVEL VARIABLES READ AS WHEN THE CALL BEGINS. Each datum BY PROGRAM (the guide's laid-datum.mjs) off the statement by which the dump's own 'gosem.cut.vars' lays the variable. In a bare row this is a premise. The card (YtodkfjdifchibaaDoorCards.lean) ties it to the program's text. -/
def laid_math_bits_deBruijn32tab {H : Type} : DataW H := .agg [.lit (.int .u8 0), .lit (.int .u8 1), .lit (.int .u8 28), .lit (.int .u8 2), .lit (.int .u8 29), .lit (.int .u8 14), .lit (.int .u8 24), .lit (.int .u8 3), .lit (.int .u8 30), .lit (.int .u8 22), .lit (.int .u8 20), .lit (.int .u8 15), .lit (.int .u8 25), .lit (.int .u8 17), .lit (.int .u8 4), .lit (.int .u8 8), .lit (.int .u8 31), .lit (.int .u8 27), .lit (.int .u8 13), .lit (.int .u8 23), .lit (.int .u8 21), .lit (.int .u8 19), .lit (.int .u8 16), .lit (.int .u8 7), .lit (.int .u8 26), .lit (.int .u8 12), .lit (.int .u8 18), .lit (.int .u8 6), .lit (.int .u8 11), .lit (.int .u8 5), .lit (.int .u8 10), .lit (.int .u8 9)]

/-- 'backstaylaw16.LoopTrips': WHATEVER THE INPUT: true; the input reads as it did. -/
def loopTripsSpec : ChangeSpec := { name := "loopTrips", fn := fun _ => fun
  | [d] => { results := [.lit (.bool true)], args := [d] }
  | _ => none }
def loopTripsRow : OpenClaim := { program := "ytodkfjdifchibaadoor", sum := "ed446a27adb074fe38ed4eeec6ae439e5696d6d5296aa887e18b2a099f944f29", func := "backstay/backstaylaw16.LoopTrips", spec := "loopTrips", recurses := true, named := ["math/bits.deBruijn32tab"], apart := false, laid := [("math/bits.deBruijn32tab", laid_math_bits_deBruijn32tab)] }
def LoopTripsSaid : Prop := loopTripsRow.holds Tryd.pinned (OpenSpec.ofChange loopTripsSpec)

/-- ITS FALSE NEIGHBOUR: 'it returns false'. Refute it at one input. -/
def loopTripsWrong : ChangeSpec := { name := "loopTrips", fn := fun _ => fun
  | [d] => { results := [.lit (.bool false)], args := [d] }
  | _ => none }
def LoopTripsWrongFalsely : Prop := loopTripsRow.holds Tryd.pinned (OpenSpec.ofChange loopTripsWrong)

/-- 'backstaylaw16.LoopEnds': WHATEVER THE INPUT: true; the input reads as it did. -/
def loopEndsSpec : ChangeSpec := { name := "loopEnds", fn := fun _ => fun
  | [d1, d2] => { results := [.lit (.bool true)], args := [d1, d2] }
  | _ => none }
def loopEndsRow : OpenClaim := { program := "ytodkfjdifchibaadoor", sum := "ed446a27adb074fe38ed4eeec6ae439e5696d6d5296aa887e18b2a099f944f29", func := "backstay/backstaylaw16.LoopEnds", spec := "loopEnds", recurses := true, named := ["math/bits.deBruijn32tab"], apart := false, laid := [("math/bits.deBruijn32tab", laid_math_bits_deBruijn32tab)] }
def LoopEndsSaid : Prop := loopEndsRow.holds Tryd.pinned (OpenSpec.ofChange loopEndsSpec)

/-- ITS FALSE NEIGHBOUR: 'it returns false'. Refute it at one input. -/
def loopEndsWrong : ChangeSpec := { name := "loopEnds", fn := fun _ => fun
  | [d1, d2] => { results := [.lit (.bool false)], args := [d1, d2] }
  | _ => none }
def LoopEndsWrongFalsely : Prop := loopEndsRow.holds Tryd.pinned (OpenSpec.ofChange loopEndsWrong)

/-- 'backstaylaw16.LoopSums': WHATEVER THE INPUT: true; the input reads as it did. -/
def loopSumsSpec : ChangeSpec := { name := "loopSums", fn := fun _ => fun
  | [d1, d2] => { results := [.lit (.bool true)], args := [d1, d2] }
  | _ => none }
def loopSumsRow : OpenClaim := { program := "ytodkfjdifchibaadoor", sum := "ed446a27adb074fe38ed4eeec6ae439e5696d6d5296aa887e18b2a099f944f29", func := "backstay/backstaylaw16.LoopSums", spec := "loopSums", recurses := true, named := ["math/bits.deBruijn32tab"], apart := false, laid := [("math/bits.deBruijn32tab", laid_math_bits_deBruijn32tab)] }
def LoopSumsSaid : Prop := loopSumsRow.holds Tryd.pinned (OpenSpec.ofChange loopSumsSpec)

/-- ITS FALSE NEIGHBOUR: 'it returns false'. Refute it at one input. -/
def loopSumsWrong : ChangeSpec := { name := "loopSums", fn := fun _ => fun
  | [d1, d2] => { results := [.lit (.bool false)], args := [d1, d2] }
  | _ => none }
def LoopSumsWrongFalsely : Prop := loopSumsRow.holds Tryd.pinned (OpenSpec.ofChange loopSumsWrong)

/-- 'backstaylaw16.LoopPowers': WHATEVER THE INPUT: true; the input reads as it did. -/
def loopPowersSpec : ChangeSpec := { name := "loopPowers", fn := fun _ => fun
  | [d1, d2, d3] => { results := [.lit (.bool true)], args := [d1, d2, d3] }
  | _ => none }
def loopPowersRow : OpenClaim := { program := "ytodkfjdifchibaadoor", sum := "ed446a27adb074fe38ed4eeec6ae439e5696d6d5296aa887e18b2a099f944f29", func := "backstay/backstaylaw16.LoopPowers", spec := "loopPowers", recurses := true, named := ["math/bits.deBruijn32tab"], apart := false, laid := [("math/bits.deBruijn32tab", laid_math_bits_deBruijn32tab)] }
def LoopPowersSaid : Prop := loopPowersRow.holds Tryd.pinned (OpenSpec.ofChange loopPowersSpec)

/-- ITS FALSE NEIGHBOUR: 'it returns false'. Refute it at one input. -/
def loopPowersWrong : ChangeSpec := { name := "loopPowers", fn := fun _ => fun
  | [d1, d2, d3] => { results := [.lit (.bool false)], args := [d1, d2, d3] }
  | _ => none }
def LoopPowersWrongFalsely : Prop := loopPowersRow.holds Tryd.pinned (OpenSpec.ofChange loopPowersWrong)

/- THE SECOND FORM. 'bulk': how many values and letters a reading holds, each counted each time it is reached (what is shared counts as often as it is met; a slice's spare places count too). A statement '..UptoSaid' is the law's where the arguments, and the package variables that the reading takes, are together of bulk at most 1048576: NARROWER than '..Said'. Prove '..Said' where nothing that the law and all that it calls make is longer than what came in: it says more and counts as full. Else prove '..UptoSaid'. A law counts once. -/
mutual
def uptoBulk {H : Type} : DataW H → Nat
  | .lit (.string bytes) => bytes.length + 1
  | .lit _ => 1
  | .nil => 1
  | .ptr d => uptoBulk d + 1
  | .slice elems spare => uptoBulkAll elems + uptoBulkAll spare + 1
  | .agg parts => uptoBulkAll parts + 1
  | .iface _ d => uptoBulk d + 1
  | .map entries => uptoBulkEntries entries + 1
  | .held _ => 1
def uptoBulkAll {H : Type} : List (DataW H) → Nat
  | [] => 0
  | d :: r => uptoBulk d + uptoBulkAll r
def uptoBulkEntries {H : Type} : List (Lit × DataW H) → Nat
  | [] => 0
  | x :: r => uptoBulkEntry x + uptoBulkEntries r
def uptoBulkEntry {H : Type} : Lit × DataW H → Nat
  | (.string bytes, d) => bytes.length + uptoBulk d + 1
  | (_, d) => uptoBulk d + 1
 end
def uptoSmall : (H : Type) → List (DataW H) → Bool := fun _ ds => decide (uptoBulkAll ds ≤ 1048576)
def OpenSpec.upto (s : _root_.Go.ChangeSpec) : _root_.Go.OpenSpec := { _root_.Go.OpenSpec.ofChange s with cond := some uptoSmall }

/-- 'backstaylaw16.LoopTrips', WHERE WHAT IT READS IS OF BULK AT MOST 1048576: true; the input reads as it did. -/
def loopTripsUptoRow : OpenClaim := { program := "ytodkfjdifchibaadoor", sum := "ed446a27adb074fe38ed4eeec6ae439e5696d6d5296aa887e18b2a099f944f29", func := "backstay/backstaylaw16.LoopTrips", spec := "loopTrips", recurses := true, named := ["math/bits.deBruijn32tab"], apart := false, laid := [("math/bits.deBruijn32tab", laid_math_bits_deBruijn32tab)], narrowed := true }
def LoopTripsUptoSaid : Prop := loopTripsUptoRow.holds Tryd.pinned (OpenSpec.upto loopTripsSpec)

/-- 'backstaylaw16.LoopEnds', WHERE WHAT IT READS IS OF BULK AT MOST 1048576: true; the input reads as it did. -/
def loopEndsUptoRow : OpenClaim := { program := "ytodkfjdifchibaadoor", sum := "ed446a27adb074fe38ed4eeec6ae439e5696d6d5296aa887e18b2a099f944f29", func := "backstay/backstaylaw16.LoopEnds", spec := "loopEnds", recurses := true, named := ["math/bits.deBruijn32tab"], apart := false, laid := [("math/bits.deBruijn32tab", laid_math_bits_deBruijn32tab)], narrowed := true }
def LoopEndsUptoSaid : Prop := loopEndsUptoRow.holds Tryd.pinned (OpenSpec.upto loopEndsSpec)

/-- 'backstaylaw16.LoopSums', WHERE WHAT IT READS IS OF BULK AT MOST 1048576: true; the input reads as it did. -/
def loopSumsUptoRow : OpenClaim := { program := "ytodkfjdifchibaadoor", sum := "ed446a27adb074fe38ed4eeec6ae439e5696d6d5296aa887e18b2a099f944f29", func := "backstay/backstaylaw16.LoopSums", spec := "loopSums", recurses := true, named := ["math/bits.deBruijn32tab"], apart := false, laid := [("math/bits.deBruijn32tab", laid_math_bits_deBruijn32tab)], narrowed := true }
def LoopSumsUptoSaid : Prop := loopSumsUptoRow.holds Tryd.pinned (OpenSpec.upto loopSumsSpec)

/-- 'backstaylaw16.LoopPowers', WHERE WHAT IT READS IS OF BULK AT MOST 1048576: true; the input reads as it did. -/
def loopPowersUptoRow : OpenClaim := { program := "ytodkfjdifchibaadoor", sum := "ed446a27adb074fe38ed4eeec6ae439e5696d6d5296aa887e18b2a099f944f29", func := "backstay/backstaylaw16.LoopPowers", spec := "loopPowers", recurses := true, named := ["math/bits.deBruijn32tab"], apart := false, laid := [("math/bits.deBruijn32tab", laid_math_bits_deBruijn32tab)], narrowed := true }
def LoopPowersUptoSaid : Prop := loopPowersUptoRow.holds Tryd.pinned (OpenSpec.upto loopPowersSpec)

end Rows
end Go.Proofs.YtodkfjdifchibaaDoor
