/-
  No cell of these rows narrows 'for every input' (looked for: loops, veiled, ifaces, maps, wideKeys, modest, calm, conditions, laid).
  DERIVED. THE GIVEN ROWS OF THIS SEAT. 5 by the template 'for every input the law returns true; each argument reads behind the call as it read before'; 0 by the template 'total and deterministic' (their statements: YtgpacajlfclobaaTotals.lean).
  GIVEN WITH THE SEED: the statements are not yours to turn. If you find one false, say at which input.
  Laid BY PROGRAM, IN A SANDBOX (cutbox-rows.mjs): the forced cells as the released guide's own fill.sh prints them over the translation 81b58403774a8dae… (all of the seat's roots in one cut). By AI agents, Wed Nov 11 2026. No macro, syntax, notation, axiom, sorry.
-/
import Derived.Test.YtgpacajlfclobaaChecked
import GoSem.Claim
import GoSem.ClaimJoined
import GoSem.ClaimMapViews
import Derived.JoinedTies
import Derived.KernelRfl
namespace Go.Proofs.Ytgpacajlfclobaa
/- THE CELL 'sum', in the pinned program and in every row, IS THE sha256 OF THE DUMP (.gsa) THAT YtgpacajlfclobaaProg.lean LOADS. Nothing in Lean hashes anything: it is a label: what it is worth is what the hold of that sum in a sandbox is worth. -/
noncomputable def Try.pinned : Pinned := { name := "ytgpacajlfclobaa", sum := "81b58403774a8dae08e994f6c354b7c3a8f646dd4da961f72dcd420b862a53ec", checked := Try.checked }
namespace Rows
def none {H : Type} : Left H := { results := [], args := [] }

/-- 'backstaylaw21.SeatMoves': WHATEVER THE INPUT: true; the input reads as it did. -/
def seatMovesSpec : ChangeSpec := { name := "seatMoves", fn := fun _ => fun
  | [d] => { results := [.lit (.bool true)], args := [d] }
  | _ => none }
def seatMovesRow : OpenClaim := { program := "ytgpacajlfclobaa", sum := "81b58403774a8dae08e994f6c354b7c3a8f646dd4da961f72dcd420b862a53ec", func := "backstay/backstaylaw21.SeatMoves", spec := "seatMoves", unfollowed := true, recurses := true, apart := false }
def SeatMovesSaid : Prop := seatMovesRow.holds Try.pinned (OpenSpec.ofChange seatMovesSpec)

/-- ITS FALSE NEIGHBOUR: 'it returns false'. Refute it at one input. -/
def seatMovesWrong : ChangeSpec := { name := "seatMoves", fn := fun _ => fun
  | [d] => { results := [.lit (.bool false)], args := [d] }
  | _ => none }
def SeatMovesWrongFalsely : Prop := seatMovesRow.holds Try.pinned (OpenSpec.ofChange seatMovesWrong)

/-- 'backstaylaw21.SeatRows': WHATEVER THE INPUT: true; the input reads as it did. -/
def seatRowsSpec : ChangeSpec := { name := "seatRows", fn := fun _ => fun
  | [d1, d2] => { results := [.lit (.bool true)], args := [d1, d2] }
  | _ => none }
def seatRowsRow : OpenClaim := { program := "ytgpacajlfclobaa", sum := "81b58403774a8dae08e994f6c354b7c3a8f646dd4da961f72dcd420b862a53ec", func := "backstay/backstaylaw21.SeatRows", spec := "seatRows", unfollowed := true, recurses := true, apart := false }
def SeatRowsSaid : Prop := seatRowsRow.holds Try.pinned (OpenSpec.ofChange seatRowsSpec)

/-- ITS FALSE NEIGHBOUR: 'it returns false'. Refute it at one input. -/
def seatRowsWrong : ChangeSpec := { name := "seatRows", fn := fun _ => fun
  | [d1, d2] => { results := [.lit (.bool false)], args := [d1, d2] }
  | _ => none }
def SeatRowsWrongFalsely : Prop := seatRowsRow.holds Try.pinned (OpenSpec.ofChange seatRowsWrong)

/-- 'backstaylaw21.SeatNeeds': WHATEVER THE INPUT: true; the input reads as it did. -/
def seatNeedsSpec : ChangeSpec := { name := "seatNeeds", fn := fun _ => fun
  | [d1, d2, d3] => { results := [.lit (.bool true)], args := [d1, d2, d3] }
  | _ => none }
def seatNeedsRow : OpenClaim := { program := "ytgpacajlfclobaa", sum := "81b58403774a8dae08e994f6c354b7c3a8f646dd4da961f72dcd420b862a53ec", func := "backstay/backstaylaw21.SeatNeeds", spec := "seatNeeds", unfollowed := true, recurses := true, apart := false }
def SeatNeedsSaid : Prop := seatNeedsRow.holds Try.pinned (OpenSpec.ofChange seatNeedsSpec)

/-- ITS FALSE NEIGHBOUR: 'it returns false'. Refute it at one input. -/
def seatNeedsWrong : ChangeSpec := { name := "seatNeeds", fn := fun _ => fun
  | [d1, d2, d3] => { results := [.lit (.bool false)], args := [d1, d2, d3] }
  | _ => none }
def SeatNeedsWrongFalsely : Prop := seatNeedsRow.holds Try.pinned (OpenSpec.ofChange seatNeedsWrong)

/-- 'backstaylaw21.SeatChecks': WHATEVER THE INPUT: true; the input reads as it did. -/
def seatChecksSpec : ChangeSpec := { name := "seatChecks", fn := fun _ => fun
  | [d1, d2, d3] => { results := [.lit (.bool true)], args := [d1, d2, d3] }
  | _ => none }
def seatChecksRow : OpenClaim := { program := "ytgpacajlfclobaa", sum := "81b58403774a8dae08e994f6c354b7c3a8f646dd4da961f72dcd420b862a53ec", func := "backstay/backstaylaw21.SeatChecks", spec := "seatChecks", unfollowed := true, recurses := true, apart := false }
def SeatChecksSaid : Prop := seatChecksRow.holds Try.pinned (OpenSpec.ofChange seatChecksSpec)

/-- ITS FALSE NEIGHBOUR: 'it returns false'. Refute it at one input. -/
def seatChecksWrong : ChangeSpec := { name := "seatChecks", fn := fun _ => fun
  | [d1, d2, d3] => { results := [.lit (.bool false)], args := [d1, d2, d3] }
  | _ => none }
def SeatChecksWrongFalsely : Prop := seatChecksRow.holds Try.pinned (OpenSpec.ofChange seatChecksWrong)

/-- 'backstaylaw21.SeatColors': WHATEVER THE INPUT: true; the input reads as it did. -/
def seatColorsSpec : ChangeSpec := { name := "seatColors", fn := fun _ => fun
  | [d1, d2] => { results := [.lit (.bool true)], args := [d1, d2] }
  | _ => none }
def seatColorsRow : OpenClaim := { program := "ytgpacajlfclobaa", sum := "81b58403774a8dae08e994f6c354b7c3a8f646dd4da961f72dcd420b862a53ec", func := "backstay/backstaylaw21.SeatColors", spec := "seatColors", unfollowed := true, recurses := true, apart := false }
def SeatColorsSaid : Prop := seatColorsRow.holds Try.pinned (OpenSpec.ofChange seatColorsSpec)

/-- ITS FALSE NEIGHBOUR: 'it returns false'. Refute it at one input. -/
def seatColorsWrong : ChangeSpec := { name := "seatColors", fn := fun _ => fun
  | [d1, d2] => { results := [.lit (.bool false)], args := [d1, d2] }
  | _ => none }
def SeatColorsWrongFalsely : Prop := seatColorsRow.holds Try.pinned (OpenSpec.ofChange seatColorsWrong)

/- THE SECOND FORM. 'bulk': how many values and letters a reading holds, each counted each time it is reached (what is shared counts as often as it is met; a slice's spare places count too). A statement '..UptoSaid' is the law's where the arguments, and the package variables that the reading takes, are together of bulk at most 1048576: NARROWER than '..Said'. Prove '..Said' where nothing that the law and all that it calls make is longer than what came in: it says more and counts as full. Else prove '..UptoSaid'. A law counts once. -/
mutual
def uptoBulk {H : Type} : DataW H → Nat
  | .lit (.string bytes) => bytes.length + 1
  | .lit _ => 1
  | .nil => 1
  | .ptr d => uptoBulk d + 1
  | .slice elems spare => uptoBulkAll elems + uptoBulkAll spare + 1
  | .agg parts => uptoBulkAll parts + 1
  | .iface _ d => uptoBulk d + 1
  | .map entries => uptoBulkEntries entries + 1
  | .held _ => 1
def uptoBulkAll {H : Type} : List (DataW H) → Nat
  | [] => 0
  | d :: r => uptoBulk d + uptoBulkAll r
def uptoBulkEntries {H : Type} : List (Lit × DataW H) → Nat
  | [] => 0
  | x :: r => uptoBulkEntry x + uptoBulkEntries r
def uptoBulkEntry {H : Type} : Lit × DataW H → Nat
  | (.string bytes, d) => bytes.length + uptoBulk d + 1
  | (_, d) => uptoBulk d + 1
 end
def uptoSmall : (H : Type) → List (DataW H) → Bool := fun _ ds => decide (uptoBulkAll ds ≤ 1048576)
def OpenSpec.upto (s : _root_.Go.ChangeSpec) : _root_.Go.OpenSpec := { _root_.Go.OpenSpec.ofChange s with cond := some uptoSmall }

/-- 'backstaylaw21.SeatMoves', WHERE WHAT IT READS IS OF BULK AT MOST 1048576: true; the input reads as it did. -/
def seatMovesUptoRow : OpenClaim := { program := "ytgpacajlfclobaa", sum := "81b58403774a8dae08e994f6c354b7c3a8f646dd4da961f72dcd420b862a53ec", func := "backstay/backstaylaw21.SeatMoves", spec := "seatMoves", unfollowed := true, recurses := true, apart := false, narrowed := true }
def SeatMovesUptoSaid : Prop := seatMovesUptoRow.holds Try.pinned (OpenSpec.upto seatMovesSpec)

/-- 'backstaylaw21.SeatRows', WHERE WHAT IT READS IS OF BULK AT MOST 1048576: true; the input reads as it did. -/
def seatRowsUptoRow : OpenClaim := { program := "ytgpacajlfclobaa", sum := "81b58403774a8dae08e994f6c354b7c3a8f646dd4da961f72dcd420b862a53ec", func := "backstay/backstaylaw21.SeatRows", spec := "seatRows", unfollowed := true, recurses := true, apart := false, narrowed := true }
def SeatRowsUptoSaid : Prop := seatRowsUptoRow.holds Try.pinned (OpenSpec.upto seatRowsSpec)

/-- 'backstaylaw21.SeatNeeds', WHERE WHAT IT READS IS OF BULK AT MOST 1048576: true; the input reads as it did. -/
def seatNeedsUptoRow : OpenClaim := { program := "ytgpacajlfclobaa", sum := "81b58403774a8dae08e994f6c354b7c3a8f646dd4da961f72dcd420b862a53ec", func := "backstay/backstaylaw21.SeatNeeds", spec := "seatNeeds", unfollowed := true, recurses := true, apart := false, narrowed := true }
def SeatNeedsUptoSaid : Prop := seatNeedsUptoRow.holds Try.pinned (OpenSpec.upto seatNeedsSpec)

/-- 'backstaylaw21.SeatChecks', WHERE WHAT IT READS IS OF BULK AT MOST 1048576: true; the input reads as it did. -/
def seatChecksUptoRow : OpenClaim := { program := "ytgpacajlfclobaa", sum := "81b58403774a8dae08e994f6c354b7c3a8f646dd4da961f72dcd420b862a53ec", func := "backstay/backstaylaw21.SeatChecks", spec := "seatChecks", unfollowed := true, recurses := true, apart := false, narrowed := true }
def SeatChecksUptoSaid : Prop := seatChecksUptoRow.holds Try.pinned (OpenSpec.upto seatChecksSpec)

/-- 'backstaylaw21.SeatColors', WHERE WHAT IT READS IS OF BULK AT MOST 1048576: true; the input reads as it did. -/
def seatColorsUptoRow : OpenClaim := { program := "ytgpacajlfclobaa", sum := "81b58403774a8dae08e994f6c354b7c3a8f646dd4da961f72dcd420b862a53ec", func := "backstay/backstaylaw21.SeatColors", spec := "seatColors", unfollowed := true, recurses := true, apart := false, narrowed := true }
def SeatColorsUptoSaid : Prop := seatColorsUptoRow.holds Try.pinned (OpenSpec.upto seatColorsSpec)

end Rows
end Go.Proofs.Ytgpacajlfclobaa
