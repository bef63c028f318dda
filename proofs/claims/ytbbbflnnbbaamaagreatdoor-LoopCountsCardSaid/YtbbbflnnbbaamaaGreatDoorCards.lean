/-
  DERIVED. GIVEN WITH THE SEED: THE CARDS: each row of YtbbbflnnbbaamaaGreatDoorRows.lean that lists a variable, with what it lists TIED to the program's text (the seventh form; the later family's looks); each row that meets fmt, with fmt's text TOLD by the authors' own Lean function (tested against real Go, not proved from fmt's source: count such statements apart). THE CARD IS WHAT COUNTS. Prove the row's statement (the work); the ties are given (YtbbbflnnbbaamaaGreatDoorTie.lean); close each card by the builder's one call (the guide's Derived/Test/ToyasCard.lean, 'card_holds'). Laid BY PROGRAM, IN A SANDBOX (cutbox-door.mjs). By AI agents, Wed Nov 11 2026. No macro, syntax, notation, axiom, sorry.
-/
import Derived.Test.YtbbbflnnbbaamaaGreatDoorRows
import GoSem.ClaimSeven
namespace Go.Proofs.YtbbbflnnbbaamaaGreatDoor
namespace Rows

/-- THE TIED CARD OF 'backstaylaw16.LoopCounts'. -/
def loopCountsCard : Claim7 := { stood := { row := loopCountsRow, standIns := [], harness := (true, "b4465d6391f4fdeb45f5ea0b4302364898d225e95459ce46ef03cc178ba1544b"), looks := false }, kinds := [], alts := [], laidByText := true, laidKinds := [.data], laidTests := true, laidLooks := .later }
def LoopCountsCardSaid : Prop := Claim7.holds Tryz.pinned (.plain (OpenSpec.ofChange loopCountsSpec)) loopCountsCard

/-- THE TIED CARD OF 'backstaylaw16.LoopRounds'. -/
def loopRoundsCard : Claim7 := { stood := { row := loopRoundsRow, standIns := [], harness := (true, "b4465d6391f4fdeb45f5ea0b4302364898d225e95459ce46ef03cc178ba1544b"), looks := false }, kinds := [], alts := [], laidByText := true, laidKinds := [.data], laidTests := true, laidLooks := .later }
def LoopRoundsCardSaid : Prop := Claim7.holds Tryz.pinned (.plain (OpenSpec.ofChange loopRoundsSpec)) loopRoundsCard

/-- THE SECOND FORM's CARD OF 'backstaylaw16.LoopCounts'. -/
def loopCountsUptoCard : Claim7 := { stood := { row := loopCountsUptoRow, standIns := [], harness := (true, "b4465d6391f4fdeb45f5ea0b4302364898d225e95459ce46ef03cc178ba1544b"), looks := false }, kinds := [], alts := [], laidByText := true, laidKinds := [.data], laidTests := true, laidLooks := .later }
def LoopCountsUptoCardSaid : Prop := Claim7.holds Tryz.pinned (.plain (OpenSpec.upto loopCountsSpec)) loopCountsUptoCard

/-- THE SECOND FORM's CARD OF 'backstaylaw16.LoopRounds'. -/
def loopRoundsUptoCard : Claim7 := { stood := { row := loopRoundsUptoRow, standIns := [], harness := (true, "b4465d6391f4fdeb45f5ea0b4302364898d225e95459ce46ef03cc178ba1544b"), looks := false }, kinds := [], alts := [], laidByText := true, laidKinds := [.data], laidTests := true, laidLooks := .later }
def LoopRoundsUptoCardSaid : Prop := Claim7.holds Tryz.pinned (.plain (OpenSpec.upto loopRoundsSpec)) loopRoundsUptoCard
end Rows
end Go.Proofs.YtbbbflnnbbaamaaGreatDoor
