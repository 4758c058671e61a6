/-
  DERIVED. GIVEN WITH THE SEED: THE CARDS: each row of YtondgbiamadehaaDoorRows.lean that lists a variable, with what it lists TIED to the program's text (the seventh form; the later family's looks); each row that meets fmt, with fmt's text TOLD by the authors' own Lean function (tested against real Go, not proved from fmt's source: count such statements apart). THE CARD IS WHAT COUNTS. Prove the row's statement (the work); the ties are given (YtondgbiamadehaaDoorTie.lean); close each card by the builder's one call (the guide's Derived/Test/ToyasCard.lean, 'card_holds'). Laid BY PROGRAM, IN A SANDBOX (cutbox-door.mjs). By AI agents, Wed Nov 11 2026. No macro, syntax, notation, axiom, sorry.
-/
import Derived.Test.YtondgbiamadehaaDoorRows
import GoSem.ClaimSeven
namespace Go.Proofs.YtondgbiamadehaaDoor
namespace Rows

/-- THE TIED CARD OF 'suretylaw01.NumDivs'. -/
def numDivsCard : Claim7 := { stood := { row := numDivsRow, standIns := [], harness := (true, "46e1c7724ac47c8c35cf165d72094db0607c989ff1780386acc7106f40394787"), looks := true }, kinds := [], alts := [], laidByText := true, laidKinds := [.data, .data, .data, .sentinel, .sentinel], laidTests := true, laidLooks := .later }
def NumDivsCardSaid : Prop := Claim7.holds Tryd.pinned (.plain (OpenSpec.ofChange numDivsSpec)) numDivsCard

/-- THE TIED CARD OF 'suretylaw01.NumZigs'. -/
def numZigsCard : Claim7 := { stood := { row := numZigsRow, standIns := [], harness := (true, "46e1c7724ac47c8c35cf165d72094db0607c989ff1780386acc7106f40394787"), looks := true }, kinds := [], alts := [], laidByText := true, laidKinds := [.data, .data, .data, .sentinel, .sentinel], laidTests := true, laidLooks := .later }
def NumZigsCardSaid : Prop := Claim7.holds Tryd.pinned (.plain (OpenSpec.ofChange numZigsSpec)) numZigsCard

/-- THE TIED CARD OF 'suretylaw01.NumTexts'. -/
def numTextsCard : Claim7 := { stood := { row := numTextsRow, standIns := [], harness := (true, "46e1c7724ac47c8c35cf165d72094db0607c989ff1780386acc7106f40394787"), looks := true }, kinds := [], alts := [], laidByText := true, laidKinds := [.data, .data, .data, .sentinel, .sentinel], laidTests := true, laidLooks := .later }
def NumTextsCardSaid : Prop := Claim7.holds Tryd.pinned (.plain (OpenSpec.ofChange numTextsSpec)) numTextsCard

/-- THE TIED CARD OF 'suretylaw01.NumAdds'. -/
def numAddsCard : Claim7 := { stood := { row := numAddsRow, standIns := [], harness := (true, "46e1c7724ac47c8c35cf165d72094db0607c989ff1780386acc7106f40394787"), looks := true }, kinds := [], alts := [], laidByText := true, laidKinds := [.data, .data, .data, .sentinel, .sentinel], laidTests := true, laidLooks := .later }
def NumAddsCardSaid : Prop := Claim7.holds Tryd.pinned (.plain (OpenSpec.ofChange numAddsSpec)) numAddsCard

/-- THE TIED CARD OF 'suretylaw01.NumMuls'. -/
def numMulsCard : Claim7 := { stood := { row := numMulsRow, standIns := [], harness := (true, "46e1c7724ac47c8c35cf165d72094db0607c989ff1780386acc7106f40394787"), looks := true }, kinds := [], alts := [], laidByText := true, laidKinds := [.data, .data, .data, .sentinel, .sentinel], laidTests := true, laidLooks := .later }
def NumMulsCardSaid : Prop := Claim7.holds Tryd.pinned (.plain (OpenSpec.ofChange numMulsSpec)) numMulsCard

/-- THE TIED CARD OF 'suretylaw01.NumBack'. -/
def numBackCard : Claim7 := { stood := { row := numBackRow, standIns := [], harness := (true, "46e1c7724ac47c8c35cf165d72094db0607c989ff1780386acc7106f40394787"), looks := true }, kinds := [], alts := [], laidByText := true, laidKinds := [.data, .data, .data, .sentinel, .sentinel], laidTests := true, laidLooks := .later }
def NumBackCardSaid : Prop := Claim7.holds Tryd.pinned (.plain (OpenSpec.ofChange numBackSpec)) numBackCard

/-- THE SECOND FORM's CARD OF 'suretylaw01.NumDivs'. -/
def numDivsUptoCard : Claim7 := { stood := { row := numDivsUptoRow, standIns := [], harness := (true, "46e1c7724ac47c8c35cf165d72094db0607c989ff1780386acc7106f40394787"), looks := true }, kinds := [], alts := [], laidByText := true, laidKinds := [.data, .data, .data, .sentinel, .sentinel], laidTests := true, laidLooks := .later }
def NumDivsUptoCardSaid : Prop := Claim7.holds Tryd.pinned (.plain (OpenSpec.upto numDivsSpec)) numDivsUptoCard

/-- THE SECOND FORM's CARD OF 'suretylaw01.NumZigs'. -/
def numZigsUptoCard : Claim7 := { stood := { row := numZigsUptoRow, standIns := [], harness := (true, "46e1c7724ac47c8c35cf165d72094db0607c989ff1780386acc7106f40394787"), looks := true }, kinds := [], alts := [], laidByText := true, laidKinds := [.data, .data, .data, .sentinel, .sentinel], laidTests := true, laidLooks := .later }
def NumZigsUptoCardSaid : Prop := Claim7.holds Tryd.pinned (.plain (OpenSpec.upto numZigsSpec)) numZigsUptoCard

/-- THE SECOND FORM's CARD OF 'suretylaw01.NumTexts'. -/
def numTextsUptoCard : Claim7 := { stood := { row := numTextsUptoRow, standIns := [], harness := (true, "46e1c7724ac47c8c35cf165d72094db0607c989ff1780386acc7106f40394787"), looks := true }, kinds := [], alts := [], laidByText := true, laidKinds := [.data, .data, .data, .sentinel, .sentinel], laidTests := true, laidLooks := .later }
def NumTextsUptoCardSaid : Prop := Claim7.holds Tryd.pinned (.plain (OpenSpec.upto numTextsSpec)) numTextsUptoCard

/-- THE SECOND FORM's CARD OF 'suretylaw01.NumAdds'. -/
def numAddsUptoCard : Claim7 := { stood := { row := numAddsUptoRow, standIns := [], harness := (true, "46e1c7724ac47c8c35cf165d72094db0607c989ff1780386acc7106f40394787"), looks := true }, kinds := [], alts := [], laidByText := true, laidKinds := [.data, .data, .data, .sentinel, .sentinel], laidTests := true, laidLooks := .later }
def NumAddsUptoCardSaid : Prop := Claim7.holds Tryd.pinned (.plain (OpenSpec.upto numAddsSpec)) numAddsUptoCard

/-- THE SECOND FORM's CARD OF 'suretylaw01.NumMuls'. -/
def numMulsUptoCard : Claim7 := { stood := { row := numMulsUptoRow, standIns := [], harness := (true, "46e1c7724ac47c8c35cf165d72094db0607c989ff1780386acc7106f40394787"), looks := true }, kinds := [], alts := [], laidByText := true, laidKinds := [.data, .data, .data, .sentinel, .sentinel], laidTests := true, laidLooks := .later }
def NumMulsUptoCardSaid : Prop := Claim7.holds Tryd.pinned (.plain (OpenSpec.upto numMulsSpec)) numMulsUptoCard

/-- THE SECOND FORM's CARD OF 'suretylaw01.NumBack'. -/
def numBackUptoCard : Claim7 := { stood := { row := numBackUptoRow, standIns := [], harness := (true, "46e1c7724ac47c8c35cf165d72094db0607c989ff1780386acc7106f40394787"), looks := true }, kinds := [], alts := [], laidByText := true, laidKinds := [.data, .data, .data, .sentinel, .sentinel], laidTests := true, laidLooks := .later }
def NumBackUptoCardSaid : Prop := Claim7.holds Tryd.pinned (.plain (OpenSpec.upto numBackSpec)) numBackUptoCard
end Rows
end Go.Proofs.YtondgbiamadehaaDoor
