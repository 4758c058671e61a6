/-
  DERIVED. GIVEN WITH THE SEED: THE CARDS: each row of YtcgbgcconigdbaaGreatDoorRows.lean that lists a variable, with what it lists TIED to the program's text (the seventh form; the later family's looks); each row that meets fmt, with fmt's text TOLD by the authors' own Lean function (tested against real Go, not proved from fmt's source: count such statements apart). THE CARD IS WHAT COUNTS. Prove the row's statement (the work); the ties are given (YtcgbgcconigdbaaGreatDoorTie.lean); close each card by the builder's one call (the guide's Derived/Test/ToyasCard.lean, 'card_holds'). Laid BY PROGRAM, IN A SANDBOX (cutbox-door.mjs). By AI agents, Wed Nov 11 2026. No macro, syntax, notation, axiom, sorry.
-/
import Derived.Test.YtcgbgcconigdbaaGreatDoorRows
import GoSem.ClaimSeven
namespace Go.Proofs.YtcgbgcconigdbaaGreatDoor
namespace Rows

/-- THE TIED CARD OF 'suretylaw08.ExprGroups'. -/
def exprGroupsCard : Claim7 := { stood := { row := exprGroupsRow, standIns := [], harness := (true, "58a42eb430a4cb324cbeb54b8adb17d13470987004575f691c606e53847a7950"), looks := true }, kinds := [], alts := [], laidByText := true, laidKinds := [.data, .data, .data, .sentinel, .sentinel], laidTests := true, laidLooks := .later }
def ExprGroupsCardSaid : Prop := Claim7.holds Tryz.pinned (.plain (OpenSpec.ofChange exprGroupsSpec)) exprGroupsCard

/-- THE SECOND FORM's CARD OF 'suretylaw08.ExprGroups'. -/
def exprGroupsUptoCard : Claim7 := { stood := { row := exprGroupsUptoRow, standIns := [], harness := (true, "58a42eb430a4cb324cbeb54b8adb17d13470987004575f691c606e53847a7950"), looks := true }, kinds := [], alts := [], laidByText := true, laidKinds := [.data, .data, .data, .sentinel, .sentinel], laidTests := true, laidLooks := .later }
def ExprGroupsUptoCardSaid : Prop := Claim7.holds Tryz.pinned (.plain (OpenSpec.upto exprGroupsSpec)) exprGroupsUptoCard
end Rows
end Go.Proofs.YtcgbgcconigdbaaGreatDoor
