/-
  DERIVED. GIVEN WITH THE SEED: THE CARDS: each row of YtodkfjdifchibaaDoorRows.lean that lists a variable, with what it lists TIED to the program's text (the seventh form; the later family's looks); each row that meets fmt, with fmt's text TOLD by the authors' own Lean function (tested against real Go, not proved from fmt's source: count such statements apart). THE CARD IS WHAT COUNTS. Prove the row's statement (the work); the ties are given (YtodkfjdifchibaaDoorTie.lean); close each card by the builder's one call (the guide's Derived/Test/ToyasCard.lean, 'card_holds'). Laid BY PROGRAM, IN A SANDBOX (cutbox-door.mjs). By AI agents, Wed Nov 11 2026. No macro, syntax, notation, axiom, sorry.
-/
import Derived.Test.YtodkfjdifchibaaDoorRows
import GoSem.ClaimSeven
namespace Go.Proofs.YtodkfjdifchibaaDoor
namespace Rows

/-- THE TIED CARD OF 'backstaylaw16.LoopTrips'. -/
def loopTripsCard : Claim7 := { stood := { row := loopTripsRow, standIns := [], harness := (true, "1a889639aa30c85f72ad1e35565866f664ef79ee8139369bc3fb051eb5512099"), looks := false }, kinds := [], alts := [], laidByText := true, laidKinds := [.data], laidTests := true, laidLooks := .later }
def LoopTripsCardSaid : Prop := Claim7.holds Tryd.pinned (.plain (OpenSpec.ofChange loopTripsSpec)) loopTripsCard

/-- THE TIED CARD OF 'backstaylaw16.LoopEnds'. -/
def loopEndsCard : Claim7 := { stood := { row := loopEndsRow, standIns := [], harness := (true, "1a889639aa30c85f72ad1e35565866f664ef79ee8139369bc3fb051eb5512099"), looks := false }, kinds := [], alts := [], laidByText := true, laidKinds := [.data], laidTests := true, laidLooks := .later }
def LoopEndsCardSaid : Prop := Claim7.holds Tryd.pinned (.plain (OpenSpec.ofChange loopEndsSpec)) loopEndsCard

/-- THE TIED CARD OF 'backstaylaw16.LoopSums'. -/
def loopSumsCard : Claim7 := { stood := { row := loopSumsRow, standIns := [], harness := (true, "1a889639aa30c85f72ad1e35565866f664ef79ee8139369bc3fb051eb5512099"), looks := false }, kinds := [], alts := [], laidByText := true, laidKinds := [.data], laidTests := true, laidLooks := .later }
def LoopSumsCardSaid : Prop := Claim7.holds Tryd.pinned (.plain (OpenSpec.ofChange loopSumsSpec)) loopSumsCard

/-- THE TIED CARD OF 'backstaylaw16.LoopPowers'. -/
def loopPowersCard : Claim7 := { stood := { row := loopPowersRow, standIns := [], harness := (true, "1a889639aa30c85f72ad1e35565866f664ef79ee8139369bc3fb051eb5512099"), looks := false }, kinds := [], alts := [], laidByText := true, laidKinds := [.data], laidTests := true, laidLooks := .later }
def LoopPowersCardSaid : Prop := Claim7.holds Tryd.pinned (.plain (OpenSpec.ofChange loopPowersSpec)) loopPowersCard

/-- THE SECOND FORM's CARD OF 'backstaylaw16.LoopTrips'. -/
def loopTripsUptoCard : Claim7 := { stood := { row := loopTripsUptoRow, standIns := [], harness := (true, "1a889639aa30c85f72ad1e35565866f664ef79ee8139369bc3fb051eb5512099"), looks := false }, kinds := [], alts := [], laidByText := true, laidKinds := [.data], laidTests := true, laidLooks := .later }
def LoopTripsUptoCardSaid : Prop := Claim7.holds Tryd.pinned (.plain (OpenSpec.upto loopTripsSpec)) loopTripsUptoCard

/-- THE SECOND FORM's CARD OF 'backstaylaw16.LoopEnds'. -/
def loopEndsUptoCard : Claim7 := { stood := { row := loopEndsUptoRow, standIns := [], harness := (true, "1a889639aa30c85f72ad1e35565866f664ef79ee8139369bc3fb051eb5512099"), looks := false }, kinds := [], alts := [], laidByText := true, laidKinds := [.data], laidTests := true, laidLooks := .later }
def LoopEndsUptoCardSaid : Prop := Claim7.holds Tryd.pinned (.plain (OpenSpec.upto loopEndsSpec)) loopEndsUptoCard

/-- THE SECOND FORM's CARD OF 'backstaylaw16.LoopSums'. -/
def loopSumsUptoCard : Claim7 := { stood := { row := loopSumsUptoRow, standIns := [], harness := (true, "1a889639aa30c85f72ad1e35565866f664ef79ee8139369bc3fb051eb5512099"), looks := false }, kinds := [], alts := [], laidByText := true, laidKinds := [.data], laidTests := true, laidLooks := .later }
def LoopSumsUptoCardSaid : Prop := Claim7.holds Tryd.pinned (.plain (OpenSpec.upto loopSumsSpec)) loopSumsUptoCard

/-- THE SECOND FORM's CARD OF 'backstaylaw16.LoopPowers'. -/
def loopPowersUptoCard : Claim7 := { stood := { row := loopPowersUptoRow, standIns := [], harness := (true, "1a889639aa30c85f72ad1e35565866f664ef79ee8139369bc3fb051eb5512099"), looks := false }, kinds := [], alts := [], laidByText := true, laidKinds := [.data], laidTests := true, laidLooks := .later }
def LoopPowersUptoCardSaid : Prop := Claim7.holds Tryd.pinned (.plain (OpenSpec.upto loopPowersSpec)) loopPowersUptoCard
end Rows
end Go.Proofs.YtodkfjdifchibaaDoor
