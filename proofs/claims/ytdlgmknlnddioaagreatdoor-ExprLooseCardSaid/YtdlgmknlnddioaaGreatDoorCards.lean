/-
  DERIVED. GIVEN WITH THE SEED: THE CARDS: each row of YtdlgmknlnddioaaGreatDoorRows.lean that lists a variable, with what it lists TIED to the program's text (the seventh form; the later family's looks); each row that meets fmt, with fmt's text TOLD by the authors' own Lean function (tested against real Go, not proved from fmt's source: count such statements apart). THE CARD IS WHAT COUNTS. Prove the row's statement (the work); the ties are given (YtdlgmknlnddioaaGreatDoorTie.lean); close each card by the builder's one call (the guide's Derived/Test/ToyasCard.lean, 'card_holds'). Laid BY PROGRAM, IN A SANDBOX (cutbox-door.mjs). By AI agents, Wed Nov 11 2026. No macro, syntax, notation, axiom, sorry.
-/
import Derived.Test.YtdlgmknlnddioaaGreatDoorRows
import GoSem.ClaimSeven
namespace Go.Proofs.YtdlgmknlnddioaaGreatDoor
namespace Rows

/-- THE TIED CARD OF 'suretylaw08.ExprGroups'. -/
def exprGroupsCard : Claim7 := { stood := { row := exprGroupsRow, standIns := [], harness := (true, "59bb54f05d8ff478e89dc86d725f3a283d9a830f58df630efe3e298afc7cddb9"), looks := true }, kinds := [], alts := [], laidByText := true, laidKinds := [.data, .data, .data, .sentinel, .sentinel], laidTests := true, laidLooks := .later }
def ExprGroupsCardSaid : Prop := Claim7.holds Tryz.pinned (.plain (OpenSpec.ofChange exprGroupsSpec)) exprGroupsCard

/-- THE TIED CARD OF 'suretylaw08.ExprLoose'. -/
def exprLooseCard : Claim7 := { stood := { row := exprLooseRow, standIns := [], harness := (true, "59bb54f05d8ff478e89dc86d725f3a283d9a830f58df630efe3e298afc7cddb9"), looks := true }, kinds := [], alts := [], laidByText := true, laidKinds := [.data, .data, .data, .sentinel, .sentinel], laidTests := true, laidLooks := .later }
def ExprLooseCardSaid : Prop := Claim7.holds Tryz.pinned (.plain (OpenSpec.ofChange exprLooseSpec)) exprLooseCard

/-- THE TIED CARD OF 'suretylaw08.ExprSame'. -/
def exprSameCard : Claim7 := { stood := { row := exprSameRow, standIns := [], harness := (true, "59bb54f05d8ff478e89dc86d725f3a283d9a830f58df630efe3e298afc7cddb9"), looks := true }, kinds := [], alts := [], laidByText := true, laidKinds := [.data, .data, .data, .sentinel, .sentinel], laidTests := true, laidLooks := .later }
def ExprSameCardSaid : Prop := Claim7.holds Tryz.pinned (.plain (OpenSpec.ofChange exprSameSpec)) exprSameCard

/-- THE SECOND FORM's CARD OF 'suretylaw08.ExprGroups'. -/
def exprGroupsUptoCard : Claim7 := { stood := { row := exprGroupsUptoRow, standIns := [], harness := (true, "59bb54f05d8ff478e89dc86d725f3a283d9a830f58df630efe3e298afc7cddb9"), looks := true }, kinds := [], alts := [], laidByText := true, laidKinds := [.data, .data, .data, .sentinel, .sentinel], laidTests := true, laidLooks := .later }
def ExprGroupsUptoCardSaid : Prop := Claim7.holds Tryz.pinned (.plain (OpenSpec.upto exprGroupsSpec)) exprGroupsUptoCard

/-- THE SECOND FORM's CARD OF 'suretylaw08.ExprLoose'. -/
def exprLooseUptoCard : Claim7 := { stood := { row := exprLooseUptoRow, standIns := [], harness := (true, "59bb54f05d8ff478e89dc86d725f3a283d9a830f58df630efe3e298afc7cddb9"), looks := true }, kinds := [], alts := [], laidByText := true, laidKinds := [.data, .data, .data, .sentinel, .sentinel], laidTests := true, laidLooks := .later }
def ExprLooseUptoCardSaid : Prop := Claim7.holds Tryz.pinned (.plain (OpenSpec.upto exprLooseSpec)) exprLooseUptoCard

/-- THE SECOND FORM's CARD OF 'suretylaw08.ExprSame'. -/
def exprSameUptoCard : Claim7 := { stood := { row := exprSameUptoRow, standIns := [], harness := (true, "59bb54f05d8ff478e89dc86d725f3a283d9a830f58df630efe3e298afc7cddb9"), looks := true }, kinds := [], alts := [], laidByText := true, laidKinds := [.data, .data, .data, .sentinel, .sentinel], laidTests := true, laidLooks := .later }
def ExprSameUptoCardSaid : Prop := Claim7.holds Tryz.pinned (.plain (OpenSpec.upto exprSameSpec)) exprSameUptoCard
end Rows
end Go.Proofs.YtdlgmknlnddioaaGreatDoor
