/-
  DERIVED. GIVEN WITH THE SEED: THE CARDS: each row of YtibfgggccedmdaaDoorRows.lean that lists a variable, with what it lists TIED to the program's text (the seventh form; the later family's looks); each row that meets fmt, with fmt's text TOLD by the authors' own Lean function (tested against real Go, not proved from fmt's source: count such statements apart). THE CARD IS WHAT COUNTS. Prove the row's statement (the work); the ties are given (YtibfgggccedmdaaDoorTie.lean); close each card by the builder's one call (the guide's Derived/Test/ToyasCard.lean, 'card_holds'). Laid BY PROGRAM, IN A SANDBOX (cutbox-door.mjs). By AI agents, Wed Nov 11 2026. No macro, syntax, notation, axiom, sorry.
-/
import Derived.Test.YtibfgggccedmdaaDoorRows
import GoSem.ClaimSeven
namespace Go.Proofs.YtibfgggccedmdaaDoor
namespace Rows

/-- THE TIED CARD OF 'suretylaw23.ConformMarks'. -/
def conformMarksCard : Claim7 := { stood := { row := conformMarksRow, standIns := [], harness := (true, "9a22f68d3917a16b11efd95d0adc0e60f8cc1f2ef5bc55a2e4ba8e3f58358edd"), looks := false }, kinds := [], alts := [], laidByText := true, laidKinds := [.data, .data, .data, .data, .data, .data], laidTests := true, laidLooks := .later }
def ConformMarksCardSaid : Prop := Claim7.holds Tryd.pinned (.plain (OpenSpec.ofChange conformMarksSpec)) conformMarksCard

/-- THE SECOND FORM's CARD OF 'suretylaw23.ConformMarks'. -/
def conformMarksUptoCard : Claim7 := { stood := { row := conformMarksUptoRow, standIns := [], harness := (true, "9a22f68d3917a16b11efd95d0adc0e60f8cc1f2ef5bc55a2e4ba8e3f58358edd"), looks := false }, kinds := [], alts := [], laidByText := true, laidKinds := [.data, .data, .data, .data, .data, .data], laidTests := true, laidLooks := .later }
def ConformMarksUptoCardSaid : Prop := Claim7.holds Tryd.pinned (.plain (OpenSpec.upto conformMarksSpec)) conformMarksUptoCard
end Rows
end Go.Proofs.YtibfgggccedmdaaDoor
