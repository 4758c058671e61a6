/-
  DERIVED. GIVEN WITH THE SEED: THE CARDS: each row of YtnilfihmpeojfaaGreatDoorRows.lean that lists a variable, with what it lists TIED to the program's text (the seventh form; the later family's looks); each row that meets fmt, with fmt's text TOLD by the authors' own Lean function (tested against real Go, not proved from fmt's source: count such statements apart). THE CARD IS WHAT COUNTS. Prove the row's statement (the work); the ties are given (YtnilfihmpeojfaaGreatDoorTie.lean); close each card by the builder's one call (the guide's Derived/Test/ToyasCard.lean, 'card_holds'). Laid BY PROGRAM, IN A SANDBOX (cutbox-door.mjs). By AI agents, Wed Nov 11 2026. No macro, syntax, notation, axiom, sorry.
-/
import Derived.Test.YtnilfihmpeojfaaGreatDoorRows
import GoSem.ClaimSeven
namespace Go.Proofs.YtnilfihmpeojfaaGreatDoor
namespace Rows

/-- THE TIED CARD OF 'suretylaw22.RemoteNil'. -/
def remoteNilCard : Claim7 := { stood := { row := remoteNilRow, standIns := [], harness := (true, "fa4d714f46ed9ca259dc427a077d3441f5d86e4ba03aae7b9e1d9c4034a0a072"), looks := true }, kinds := [], alts := [], laidByText := true, laidKinds := [.data, .data, .data, .data, .data, .data, .data, .data, .data], laidTests := true, laidLooks := .later }
def RemoteNilCardSaid : Prop := Claim7.holds Tryz.pinned (.plain (OpenSpec.ofChange remoteNilSpec)) remoteNilCard

/-- THE SECOND FORM's CARD OF 'suretylaw22.RemoteNil'. -/
def remoteNilUptoCard : Claim7 := { stood := { row := remoteNilUptoRow, standIns := [], harness := (true, "fa4d714f46ed9ca259dc427a077d3441f5d86e4ba03aae7b9e1d9c4034a0a072"), looks := true }, kinds := [], alts := [], laidByText := true, laidKinds := [.data, .data, .data, .data, .data, .data, .data, .data, .data], laidTests := true, laidLooks := .later }
def RemoteNilUptoCardSaid : Prop := Claim7.holds Tryz.pinned (.plain (OpenSpec.upto remoteNilSpec)) remoteNilUptoCard
end Rows
end Go.Proofs.YtnilfihmpeojfaaGreatDoor
