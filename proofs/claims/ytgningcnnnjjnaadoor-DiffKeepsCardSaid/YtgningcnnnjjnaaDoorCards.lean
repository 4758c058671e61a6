/-
  DERIVED. GIVEN WITH THE SEED: THE CARDS: each row of YtgningcnnnjjnaaDoorRows.lean that lists a variable, with what it lists TIED to the program's text (the seventh form; the later family's looks); each row that meets fmt, with fmt's text TOLD by the authors' own Lean function (tested against real Go, not proved from fmt's source: count such statements apart). THE CARD IS WHAT COUNTS. Prove the row's statement (the work); the ties are given (YtgningcnnnjjnaaDoorTie.lean); close each card by the builder's one call (the guide's Derived/Test/ToyasCard.lean, 'card_holds'). Laid BY PROGRAM, IN A SANDBOX (cutbox-door.mjs). By AI agents, Wed Nov 11 2026. No macro, syntax, notation, axiom, sorry.
-/
import Derived.Test.YtgningcnnnjjnaaDoorRows
import GoSem.ClaimSeven
namespace Go.Proofs.YtgningcnnnjjnaaDoor
namespace Rows

/-- THE TIED CARD OF 'suretylaw25.DiffChooses'. -/
def diffChoosesCard : Claim7 := { stood := { row := diffChoosesRow, standIns := [], harness := (true, "ebe065de4012f690099b40e5162425c2f9aaf7ab84fbd104abf76a9fdbb7726f"), looks := false }, kinds := [], alts := [], laidByText := true, laidKinds := [.data, .data, .data, .data, .data, .data], laidTests := true, laidLooks := .later }
def DiffChoosesCardSaid : Prop := Claim7.holds Tryd.pinned (.plain (OpenSpec.ofChange diffChoosesSpec)) diffChoosesCard

/-- THE TIED CARD OF 'suretylaw25.DiffKeeps'. -/
def diffKeepsCard : Claim7 := { stood := { row := diffKeepsRow, standIns := [], harness := (true, "ebe065de4012f690099b40e5162425c2f9aaf7ab84fbd104abf76a9fdbb7726f"), looks := false }, kinds := [], alts := [], laidByText := true, laidKinds := [.data, .data, .data, .data, .data, .data], laidTests := true, laidLooks := .later }
def DiffKeepsCardSaid : Prop := Claim7.holds Tryd.pinned (.plain (OpenSpec.ofChange diffKeepsSpec)) diffKeepsCard

/-- THE TIED CARD OF 'suretylaw25.DiffSteps'. -/
def diffStepsCard : Claim7 := { stood := { row := diffStepsRow, standIns := [], harness := (true, "ebe065de4012f690099b40e5162425c2f9aaf7ab84fbd104abf76a9fdbb7726f"), looks := false }, kinds := [], alts := [], laidByText := true, laidKinds := [.data, .data, .data, .data, .data, .data], laidTests := true, laidLooks := .later }
def DiffStepsCardSaid : Prop := Claim7.holds Tryd.pinned (.plain (OpenSpec.ofChange diffStepsSpec)) diffStepsCard

/-- THE SECOND FORM's CARD OF 'suretylaw25.DiffChooses'. -/
def diffChoosesUptoCard : Claim7 := { stood := { row := diffChoosesUptoRow, standIns := [], harness := (true, "ebe065de4012f690099b40e5162425c2f9aaf7ab84fbd104abf76a9fdbb7726f"), looks := false }, kinds := [], alts := [], laidByText := true, laidKinds := [.data, .data, .data, .data, .data, .data], laidTests := true, laidLooks := .later }
def DiffChoosesUptoCardSaid : Prop := Claim7.holds Tryd.pinned (.plain (OpenSpec.upto diffChoosesSpec)) diffChoosesUptoCard

/-- THE SECOND FORM's CARD OF 'suretylaw25.DiffKeeps'. -/
def diffKeepsUptoCard : Claim7 := { stood := { row := diffKeepsUptoRow, standIns := [], harness := (true, "ebe065de4012f690099b40e5162425c2f9aaf7ab84fbd104abf76a9fdbb7726f"), looks := false }, kinds := [], alts := [], laidByText := true, laidKinds := [.data, .data, .data, .data, .data, .data], laidTests := true, laidLooks := .later }
def DiffKeepsUptoCardSaid : Prop := Claim7.holds Tryd.pinned (.plain (OpenSpec.upto diffKeepsSpec)) diffKeepsUptoCard

/-- THE SECOND FORM's CARD OF 'suretylaw25.DiffSteps'. -/
def diffStepsUptoCard : Claim7 := { stood := { row := diffStepsUptoRow, standIns := [], harness := (true, "ebe065de4012f690099b40e5162425c2f9aaf7ab84fbd104abf76a9fdbb7726f"), looks := false }, kinds := [], alts := [], laidByText := true, laidKinds := [.data, .data, .data, .data, .data, .data], laidTests := true, laidLooks := .later }
def DiffStepsUptoCardSaid : Prop := Claim7.holds Tryd.pinned (.plain (OpenSpec.upto diffStepsSpec)) diffStepsUptoCard
end Rows
end Go.Proofs.YtgningcnnnjjnaaDoor
