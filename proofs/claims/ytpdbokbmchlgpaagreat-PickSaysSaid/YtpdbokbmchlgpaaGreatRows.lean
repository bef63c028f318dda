/-
  No cell of these rows narrows 'for every input' (looked for: loops, veiled, ifaces, maps, wideKeys, modest, calm, conditions, laid).
  DERIVED. THE GIVEN ROWS OF THIS SEAT. 3 by the template 'for every input the law returns true; each argument reads behind the call as it read before'; 0 by the template 'total and deterministic' (their statements: YtpdbokbmchlgpaaGreatTotals.lean).
  GIVEN WITH THE SEED: the statements are not yours to turn. If you find one false, say at which input.
  Laid BY PROGRAM, IN A SANDBOX (cutbox-rows.mjs): the forced cells as the released guide's own fill.sh prints them over the translation c3d60eb3632d5a4b… (all of the seat's roots in one cut). By AI agents, Wed Nov 11 2026. No macro, syntax, notation, axiom, sorry.
-/
import Derived.Test.YtpdbokbmchlgpaaGreatChecked
import GoSem.Claim
import GoSem.ClaimJoined
import GoSem.ClaimMapViews
import Derived.JoinedTies
import Derived.KernelRfl
namespace Go.Proofs.YtpdbokbmchlgpaaGreat
/- THE CELL 'sum', in the pinned program and in every row, IS THE sha256 OF THE DUMP (.gsa) THAT YtpdbokbmchlgpaaGreatProg.lean LOADS. Nothing in Lean hashes anything: it is a label: what it is worth is what the hold of that sum in a sandbox is worth. -/
noncomputable def Tryz.pinned : Pinned := { name := "ytpdbokbmchlgpaagreat", sum := "c3d60eb3632d5a4b1a2f35d00c7f2f866bd9882b50d40f1ed883f7e0b8f5a811", checked := Tryz.checked }
namespace Rows
def none {H : Type} : Left H := { results := [], args := [] }

/-- 'backstaylaw20.PickMemories': WHATEVER THE INPUT: true; the input reads as it did. -/
def pickMemoriesSpec : ChangeSpec := { name := "pickMemories", fn := fun _ => fun
  | [d1, d2] => { results := [.lit (.bool true)], args := [d1, d2] }
  | _ => none }
def pickMemoriesRow : OpenClaim := { program := "ytpdbokbmchlgpaagreat", sum := "c3d60eb3632d5a4b1a2f35d00c7f2f866bd9882b50d40f1ed883f7e0b8f5a811", func := "backstay/backstaylaw20.PickMemories", spec := "pickMemories", unfollowed := true, recurses := true, apart := false }
def PickMemoriesSaid : Prop := pickMemoriesRow.holds Tryz.pinned (OpenSpec.ofChange pickMemoriesSpec)

/-- ITS FALSE NEIGHBOUR: 'it returns false'. Refute it at one input. -/
def pickMemoriesWrong : ChangeSpec := { name := "pickMemories", fn := fun _ => fun
  | [d1, d2] => { results := [.lit (.bool false)], args := [d1, d2] }
  | _ => none }
def PickMemoriesWrongFalsely : Prop := pickMemoriesRow.holds Tryz.pinned (OpenSpec.ofChange pickMemoriesWrong)

/-- 'backstaylaw20.PickSays': WHATEVER THE INPUT: true; the input reads as it did. -/
def pickSaysSpec : ChangeSpec := { name := "pickSays", fn := fun _ => fun
  | [d1, d2, d3] => { results := [.lit (.bool true)], args := [d1, d2, d3] }
  | _ => none }
def pickSaysRow : OpenClaim := { program := "ytpdbokbmchlgpaagreat", sum := "c3d60eb3632d5a4b1a2f35d00c7f2f866bd9882b50d40f1ed883f7e0b8f5a811", func := "backstay/backstaylaw20.PickSays", spec := "pickSays", unfollowed := true, recurses := true, apart := false }
def PickSaysSaid : Prop := pickSaysRow.holds Tryz.pinned (OpenSpec.ofChange pickSaysSpec)

/-- ITS FALSE NEIGHBOUR: 'it returns false'. Refute it at one input. -/
def pickSaysWrong : ChangeSpec := { name := "pickSays", fn := fun _ => fun
  | [d1, d2, d3] => { results := [.lit (.bool false)], args := [d1, d2, d3] }
  | _ => none }
def PickSaysWrongFalsely : Prop := pickSaysRow.holds Tryz.pinned (OpenSpec.ofChange pickSaysWrong)

/-- 'backstaylaw20.PickKeeps': WHATEVER THE INPUT: true; the input reads as it did. -/
def pickKeepsSpec : ChangeSpec := { name := "pickKeeps", fn := fun _ => fun
  | [d1, d2] => { results := [.lit (.bool true)], args := [d1, d2] }
  | _ => none }
def pickKeepsRow : OpenClaim := { program := "ytpdbokbmchlgpaagreat", sum := "c3d60eb3632d5a4b1a2f35d00c7f2f866bd9882b50d40f1ed883f7e0b8f5a811", func := "backstay/backstaylaw20.PickKeeps", spec := "pickKeeps", unfollowed := true, recurses := true, apart := false }
def PickKeepsSaid : Prop := pickKeepsRow.holds Tryz.pinned (OpenSpec.ofChange pickKeepsSpec)

/-- ITS FALSE NEIGHBOUR: 'it returns false'. Refute it at one input. -/
def pickKeepsWrong : ChangeSpec := { name := "pickKeeps", fn := fun _ => fun
  | [d1, d2] => { results := [.lit (.bool false)], args := [d1, d2] }
  | _ => none }
def PickKeepsWrongFalsely : Prop := pickKeepsRow.holds Tryz.pinned (OpenSpec.ofChange pickKeepsWrong)

/- THE SECOND FORM. 'bulk': how many values and letters a reading holds, each counted each time it is reached (what is shared counts as often as it is met; a slice's spare places count too). A statement '..UptoSaid' is the law's where the arguments, and the package variables that the reading takes, are together of bulk at most 1048576: NARROWER than '..Said'. Prove '..Said' where nothing that the law and all that it calls make is longer than what came in: it says more and counts as full. Else prove '..UptoSaid'. A law counts once. -/
mutual
def uptoBulk {H : Type} : DataW H → Nat
  | .lit (.string bytes) => bytes.length + 1
  | .lit _ => 1
  | .nil => 1
  | .ptr d => uptoBulk d + 1
  | .slice elems spare => uptoBulkAll elems + uptoBulkAll spare + 1
  | .agg parts => uptoBulkAll parts + 1
  | .iface _ d => uptoBulk d + 1
  | .map entries => uptoBulkEntries entries + 1
  | .held _ => 1
def uptoBulkAll {H : Type} : List (DataW H) → Nat
  | [] => 0
  | d :: r => uptoBulk d + uptoBulkAll r
def uptoBulkEntries {H : Type} : List (Lit × DataW H) → Nat
  | [] => 0
  | x :: r => uptoBulkEntry x + uptoBulkEntries r
def uptoBulkEntry {H : Type} : Lit × DataW H → Nat
  | (.string bytes, d) => bytes.length + uptoBulk d + 1
  | (_, d) => uptoBulk d + 1
 end
def uptoSmall : (H : Type) → List (DataW H) → Bool := fun _ ds => decide (uptoBulkAll ds ≤ 1048576)
def OpenSpec.upto (s : _root_.Go.ChangeSpec) : _root_.Go.OpenSpec := { _root_.Go.OpenSpec.ofChange s with cond := some uptoSmall }

/-- 'backstaylaw20.PickMemories', WHERE WHAT IT READS IS OF BULK AT MOST 1048576: true; the input reads as it did. -/
def pickMemoriesUptoRow : OpenClaim := { program := "ytpdbokbmchlgpaagreat", sum := "c3d60eb3632d5a4b1a2f35d00c7f2f866bd9882b50d40f1ed883f7e0b8f5a811", func := "backstay/backstaylaw20.PickMemories", spec := "pickMemories", unfollowed := true, recurses := true, apart := false, narrowed := true }
def PickMemoriesUptoSaid : Prop := pickMemoriesUptoRow.holds Tryz.pinned (OpenSpec.upto pickMemoriesSpec)

/-- 'backstaylaw20.PickSays', WHERE WHAT IT READS IS OF BULK AT MOST 1048576: true; the input reads as it did. -/
def pickSaysUptoRow : OpenClaim := { program := "ytpdbokbmchlgpaagreat", sum := "c3d60eb3632d5a4b1a2f35d00c7f2f866bd9882b50d40f1ed883f7e0b8f5a811", func := "backstay/backstaylaw20.PickSays", spec := "pickSays", unfollowed := true, recurses := true, apart := false, narrowed := true }
def PickSaysUptoSaid : Prop := pickSaysUptoRow.holds Tryz.pinned (OpenSpec.upto pickSaysSpec)

/-- 'backstaylaw20.PickKeeps', WHERE WHAT IT READS IS OF BULK AT MOST 1048576: true; the input reads as it did. -/
def pickKeepsUptoRow : OpenClaim := { program := "ytpdbokbmchlgpaagreat", sum := "c3d60eb3632d5a4b1a2f35d00c7f2f866bd9882b50d40f1ed883f7e0b8f5a811", func := "backstay/backstaylaw20.PickKeeps", spec := "pickKeeps", unfollowed := true, recurses := true, apart := false, narrowed := true }
def PickKeepsUptoSaid : Prop := pickKeepsUptoRow.holds Tryz.pinned (OpenSpec.upto pickKeepsSpec)

end Rows
end Go.Proofs.YtpdbokbmchlgpaaGreat
