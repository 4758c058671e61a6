/-
  DERIVED. GIVEN WITH THE SEED: THE CARDS: each row of YtjmlnjjinhmanaaGreatDoorRows.lean that lists a variable, with what it lists TIED to the program's text (the seventh form; the later family's looks); each row that meets fmt, with fmt's text TOLD by the authors' own Lean function (tested against real Go, not proved from fmt's source: count such statements apart). THE CARD IS WHAT COUNTS. Prove the row's statement (the work); the ties are given (YtjmlnjjinhmanaaGreatDoorTie.lean); close each card by the builder's one call (the guide's Derived/Test/ToyasCard.lean, 'card_holds'). Laid BY PROGRAM, IN A SANDBOX (cutbox-door.mjs). By AI agents, Wed Nov 11 2026. No macro, syntax, notation, axiom, sorry.
-/
import Derived.Test.YtjmlnjjinhmanaaGreatDoorRows
import GoSem.ClaimSeven
namespace Go.Proofs.YtjmlnjjinhmanaaGreatDoor
namespace Rows

/-- THE TIED CARD OF 'suretylaw09.ConfJoins'. -/
def confJoinsCard : Claim7 := { stood := { row := confJoinsRow, standIns := [], harness := (true, "75a8f39c92cb524a2c8aa62cf8b5c9712c6670d74d150dee5ea9d8793c0f97ad"), looks := true }, kinds := [], alts := [], laidByText := true, laidKinds := [.data, .data, .data, .sentinel, .sentinel], laidTests := true, laidLooks := .later }
def ConfJoinsCardSaid : Prop := Claim7.holds Tryz.pinned (.plain (OpenSpec.ofChange confJoinsSpec)) confJoinsCard

/-- THE TIED CARD OF 'suretylaw09.ConfWhole'. -/
def confWholeCard : Claim7 := { stood := { row := confWholeRow, standIns := [], harness := (true, "75a8f39c92cb524a2c8aa62cf8b5c9712c6670d74d150dee5ea9d8793c0f97ad"), looks := true }, kinds := [], alts := [], laidByText := true, laidKinds := [.data, .data, .data, .sentinel, .sentinel], laidTests := true, laidLooks := .later }
def ConfWholeCardSaid : Prop := Claim7.holds Tryz.pinned (.plain (OpenSpec.ofChange confWholeSpec)) confWholeCard

/-- THE TIED CARD OF 'suretylaw09.ConfAsks'. -/
def confAsksCard : Claim7 := { stood := { row := confAsksRow, standIns := [], harness := (true, "75a8f39c92cb524a2c8aa62cf8b5c9712c6670d74d150dee5ea9d8793c0f97ad"), looks := true }, kinds := [], alts := [], laidByText := true, laidKinds := [.data, .data, .data, .sentinel, .sentinel], laidTests := true, laidLooks := .later }
def ConfAsksCardSaid : Prop := Claim7.holds Tryz.pinned (.plain (OpenSpec.ofChange confAsksSpec)) confAsksCard

/-- THE SECOND FORM's CARD OF 'suretylaw09.ConfJoins'. -/
def confJoinsUptoCard : Claim7 := { stood := { row := confJoinsUptoRow, standIns := [], harness := (true, "75a8f39c92cb524a2c8aa62cf8b5c9712c6670d74d150dee5ea9d8793c0f97ad"), looks := true }, kinds := [], alts := [], laidByText := true, laidKinds := [.data, .data, .data, .sentinel, .sentinel], laidTests := true, laidLooks := .later }
def ConfJoinsUptoCardSaid : Prop := Claim7.holds Tryz.pinned (.plain (OpenSpec.upto confJoinsSpec)) confJoinsUptoCard

/-- THE SECOND FORM's CARD OF 'suretylaw09.ConfWhole'. -/
def confWholeUptoCard : Claim7 := { stood := { row := confWholeUptoRow, standIns := [], harness := (true, "75a8f39c92cb524a2c8aa62cf8b5c9712c6670d74d150dee5ea9d8793c0f97ad"), looks := true }, kinds := [], alts := [], laidByText := true, laidKinds := [.data, .data, .data, .sentinel, .sentinel], laidTests := true, laidLooks := .later }
def ConfWholeUptoCardSaid : Prop := Claim7.holds Tryz.pinned (.plain (OpenSpec.upto confWholeSpec)) confWholeUptoCard

/-- THE SECOND FORM's CARD OF 'suretylaw09.ConfAsks'. -/
def confAsksUptoCard : Claim7 := { stood := { row := confAsksUptoRow, standIns := [], harness := (true, "75a8f39c92cb524a2c8aa62cf8b5c9712c6670d74d150dee5ea9d8793c0f97ad"), looks := true }, kinds := [], alts := [], laidByText := true, laidKinds := [.data, .data, .data, .sentinel, .sentinel], laidTests := true, laidLooks := .later }
def ConfAsksUptoCardSaid : Prop := Claim7.holds Tryz.pinned (.plain (OpenSpec.upto confAsksSpec)) confAsksUptoCard
end Rows
end Go.Proofs.YtjmlnjjinhmanaaGreatDoor
