/-
  DERIVED. GIVEN WITH THE SEED: THE CARDS: each row of YtlnkjdedeegajaaGreatDoorRows.lean that lists a variable, with what it lists TIED to the program's text (the seventh form; the later family's looks); each row that meets fmt, with fmt's text TOLD by the authors' own Lean function (tested against real Go, not proved from fmt's source: count such statements apart). THE CARD IS WHAT COUNTS. Prove the row's statement (the work); the ties are given (YtlnkjdedeegajaaGreatDoorTie.lean); close each card by the builder's one call (the guide's Derived/Test/ToyasCard.lean, 'card_holds'). Laid BY PROGRAM, IN A SANDBOX (cutbox-door.mjs). By AI agents, Wed Nov 11 2026. No macro, syntax, notation, axiom, sorry.
-/
import Derived.Test.YtlnkjdedeegajaaGreatDoorRows
import GoSem.ClaimSeven
namespace Go.Proofs.YtlnkjdedeegajaaGreatDoor
namespace Rows

/-- THE TIED CARD OF 'suretylaw14.EvalFuel'. -/
def evalFuelCard : Claim7 := { stood := { row := evalFuelRow, standIns := [], harness := (true, "b53cc08fc11af06d5240a49372e81508feeb70ac8f9df5f3b1e58743866fadcb"), looks := true }, kinds := [], alts := [], laidByText := true, laidKinds := [.data, .data, .data, .data, .sentinel, .sentinel, .listed, .data, .data, .data, .pinned], laidTests := true, laidLooks := .later }
def EvalFuelCardSaid : Prop := Claim7.holds Tryz.pinned (.plain (OpenSpec.ofChange evalFuelSpec)) evalFuelCard

/-- THE SECOND FORM's CARD OF 'suretylaw14.EvalFuel'. -/
def evalFuelUptoCard : Claim7 := { stood := { row := evalFuelUptoRow, standIns := [], harness := (true, "b53cc08fc11af06d5240a49372e81508feeb70ac8f9df5f3b1e58743866fadcb"), looks := true }, kinds := [], alts := [], laidByText := true, laidKinds := [.data, .data, .data, .data, .sentinel, .sentinel, .listed, .data, .data, .data, .pinned], laidTests := true, laidLooks := .later }
def EvalFuelUptoCardSaid : Prop := Claim7.holds Tryz.pinned (.plain (OpenSpec.upto evalFuelSpec)) evalFuelUptoCard
end Rows
end Go.Proofs.YtlnkjdedeegajaaGreatDoor
