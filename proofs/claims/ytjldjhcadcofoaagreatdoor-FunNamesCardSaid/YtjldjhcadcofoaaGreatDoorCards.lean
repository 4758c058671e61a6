/-
  DERIVED. GIVEN WITH THE SEED: THE CARDS: each row of YtjldjhcadcofoaaGreatDoorRows.lean that lists a variable, with what it lists TIED to the program's text (the seventh form; the later family's looks); each row that meets fmt, with fmt's text TOLD by the authors' own Lean function (tested against real Go, not proved from fmt's source: count such statements apart). THE CARD IS WHAT COUNTS. Prove the row's statement (the work); the ties are given (YtjldjhcadcofoaaGreatDoorTie.lean); close each card by the builder's one call (the guide's Derived/Test/ToyasCard.lean, 'card_holds'). Laid BY PROGRAM, IN A SANDBOX (cutbox-door.mjs). By AI agents, Wed Nov 11 2026. No macro, syntax, notation, axiom, sorry.
-/
import Derived.Test.YtjldjhcadcofoaaGreatDoorRows
import GoSem.ClaimSeven
namespace Go.Proofs.YtjldjhcadcofoaaGreatDoor
namespace Rows

/-- THE TIED CARD OF 'suretylaw13.FunNames'. -/
def funNamesCard : Claim7 := { stood := { row := funNamesRow, standIns := [], harness := (true, "79b4a3aad2e89e8348fac6b5c014c62afc4cf2804533cfac1b944b3e5f050823"), looks := true }, kinds := [], alts := [], laidByText := true, laidKinds := [.data, .data, .data, .data, .sentinel, .sentinel, .listed, .data, .data, .data, .pinned], laidTests := true, laidLooks := .later }
def FunNamesCardSaid : Prop := Claim7.holds Tryz.pinned (.plain (OpenSpec.ofChange funNamesSpec)) funNamesCard

/-- THE SECOND FORM's CARD OF 'suretylaw13.FunNames'. -/
def funNamesUptoCard : Claim7 := { stood := { row := funNamesUptoRow, standIns := [], harness := (true, "79b4a3aad2e89e8348fac6b5c014c62afc4cf2804533cfac1b944b3e5f050823"), looks := true }, kinds := [], alts := [], laidByText := true, laidKinds := [.data, .data, .data, .data, .sentinel, .sentinel, .listed, .data, .data, .data, .pinned], laidTests := true, laidLooks := .later }
def FunNamesUptoCardSaid : Prop := Claim7.holds Tryz.pinned (.plain (OpenSpec.upto funNamesSpec)) funNamesUptoCard
end Rows
end Go.Proofs.YtjldjhcadcofoaaGreatDoor
