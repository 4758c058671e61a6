/-
  DERIVED. GIVEN WITH THE SEED: THE CARDS: each row of YtobleaffkomcmaaGreatDoorRows.lean that lists a variable, with what it lists TIED to the program's text (the seventh form; the later family's looks); each row that meets fmt, with fmt's text TOLD by the authors' own Lean function (tested against real Go, not proved from fmt's source: count such statements apart). THE CARD IS WHAT COUNTS. Prove the row's statement (the work); the ties are given (YtobleaffkomcmaaGreatDoorTie.lean); close each card by the builder's one call (the guide's Derived/Test/ToyasCard.lean, 'card_holds'). Laid BY PROGRAM, IN A SANDBOX (cutbox-door.mjs). By AI agents, Wed Nov 11 2026. No macro, syntax, notation, axiom, sorry.
-/
import Derived.Test.YtobleaffkomcmaaGreatDoorRows
import GoSem.ClaimSeven
namespace Go.Proofs.YtobleaffkomcmaaGreatDoor
namespace Rows

/-- THE TIED CARD OF 'suretylaw12.DeclSame'. -/
def declSameCard : Claim7 := { stood := { row := declSameRow, standIns := [], harness := (true, "c544af4dda79067e162ee959a7a6d52adb924160eae71e5426c63efd19939907"), looks := true }, kinds := [], alts := [], laidByText := true, laidKinds := [.data, .data, .data, .sentinel, .sentinel, .data, .data, .data, .data, .data, .data], laidTests := true, laidLooks := .later }
def DeclSameCardSaid : Prop := Claim7.holds Tryz.pinned (.plain (OpenSpec.ofChange declSameSpec)) declSameCard

/-- THE SECOND FORM's CARD OF 'suretylaw12.DeclSame'. -/
def declSameUptoCard : Claim7 := { stood := { row := declSameUptoRow, standIns := [], harness := (true, "c544af4dda79067e162ee959a7a6d52adb924160eae71e5426c63efd19939907"), looks := true }, kinds := [], alts := [], laidByText := true, laidKinds := [.data, .data, .data, .sentinel, .sentinel, .data, .data, .data, .data, .data, .data], laidTests := true, laidLooks := .later }
def DeclSameUptoCardSaid : Prop := Claim7.holds Tryz.pinned (.plain (OpenSpec.upto declSameSpec)) declSameUptoCard
end Rows
end Go.Proofs.YtobleaffkomcmaaGreatDoor
