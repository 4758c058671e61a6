/-
  DERIVED. GIVEN WITH THE SEED: THE CARDS: each row of YtlfohmdclcdejaaDoorRows.lean that lists a variable, with what it lists TIED to the program's text (the seventh form; the later family's looks); each row that meets fmt, with fmt's text TOLD by the authors' own Lean function (tested against real Go, not proved from fmt's source: count such statements apart). THE CARD IS WHAT COUNTS. Prove the row's statement (the work); the ties are given (YtlfohmdclcdejaaDoorTie.lean); close each card by the builder's one call (the guide's Derived/Test/ToyasCard.lean, 'card_holds'). Laid BY PROGRAM, IN A SANDBOX (cutbox-door.mjs). By AI agents, Wed Nov 11 2026. No macro, syntax, notation, axiom, sorry.
-/
import Derived.Test.YtlfohmdclcdejaaDoorRows
import GoSem.ClaimSeven
namespace Go.Proofs.YtlfohmdclcdejaaDoor
namespace Rows

/-- THE TIED CARD OF 'suretylaw06.AddrOrder'. -/
def addrOrderCard : Claim7 := { stood := { row := addrOrderRow, standIns := [], harness := (true, "eb3fe0fe50f3d68780fc707f435140f21e71f70055bf57692d431e7a17bc354f"), looks := true }, kinds := [], alts := [], laidByText := true, laidKinds := [.data, .data, .data], laidTests := true, laidLooks := .later }
def AddrOrderCardSaid : Prop := Claim7.holds Tryd.pinned (.plain (OpenSpec.ofChange addrOrderSpec)) addrOrderCard

/-- THE TIED CARD OF 'suretylaw06.AddrChecks'. -/
def addrChecksCard : Claim7 := { stood := { row := addrChecksRow, standIns := [], harness := (true, "eb3fe0fe50f3d68780fc707f435140f21e71f70055bf57692d431e7a17bc354f"), looks := true }, kinds := [], alts := [], laidByText := true, laidKinds := [.data, .data, .data], laidTests := true, laidLooks := .later }
def AddrChecksCardSaid : Prop := Claim7.holds Tryd.pinned (.plain (OpenSpec.ofChange addrChecksSpec)) addrChecksCard

/-- THE TIED CARD OF 'suretylaw06.AddrTexts'. -/
def addrTextsCard : Claim7 := { stood := { row := addrTextsRow, standIns := [], harness := (true, "eb3fe0fe50f3d68780fc707f435140f21e71f70055bf57692d431e7a17bc354f"), looks := true }, kinds := [], alts := [], laidByText := true, laidKinds := [.data, .data, .data, .sentinel, .sentinel], laidTests := true, laidLooks := .later }
def AddrTextsCardSaid : Prop := Claim7.holds Tryd.pinned (.plain (OpenSpec.ofChange addrTextsSpec)) addrTextsCard

/-- THE SECOND FORM's CARD OF 'suretylaw06.AddrOrder'. -/
def addrOrderUptoCard : Claim7 := { stood := { row := addrOrderUptoRow, standIns := [], harness := (true, "eb3fe0fe50f3d68780fc707f435140f21e71f70055bf57692d431e7a17bc354f"), looks := true }, kinds := [], alts := [], laidByText := true, laidKinds := [.data, .data, .data], laidTests := true, laidLooks := .later }
def AddrOrderUptoCardSaid : Prop := Claim7.holds Tryd.pinned (.plain (OpenSpec.upto addrOrderSpec)) addrOrderUptoCard

/-- THE SECOND FORM's CARD OF 'suretylaw06.AddrChecks'. -/
def addrChecksUptoCard : Claim7 := { stood := { row := addrChecksUptoRow, standIns := [], harness := (true, "eb3fe0fe50f3d68780fc707f435140f21e71f70055bf57692d431e7a17bc354f"), looks := true }, kinds := [], alts := [], laidByText := true, laidKinds := [.data, .data, .data], laidTests := true, laidLooks := .later }
def AddrChecksUptoCardSaid : Prop := Claim7.holds Tryd.pinned (.plain (OpenSpec.upto addrChecksSpec)) addrChecksUptoCard

/-- THE SECOND FORM's CARD OF 'suretylaw06.AddrTexts'. -/
def addrTextsUptoCard : Claim7 := { stood := { row := addrTextsUptoRow, standIns := [], harness := (true, "eb3fe0fe50f3d68780fc707f435140f21e71f70055bf57692d431e7a17bc354f"), looks := true }, kinds := [], alts := [], laidByText := true, laidKinds := [.data, .data, .data, .sentinel, .sentinel], laidTests := true, laidLooks := .later }
def AddrTextsUptoCardSaid : Prop := Claim7.holds Tryd.pinned (.plain (OpenSpec.upto addrTextsSpec)) addrTextsUptoCard
end Rows
end Go.Proofs.YtlfohmdclcdejaaDoor
