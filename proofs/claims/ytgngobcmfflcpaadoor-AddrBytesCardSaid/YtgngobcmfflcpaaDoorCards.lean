/-
  DERIVED. GIVEN WITH THE SEED: THE CARDS: each row of YtgngobcmfflcpaaDoorRows.lean that lists a variable, with what it lists TIED to the program's text (the seventh form; the later family's looks); each row that meets fmt, with fmt's text TOLD by the authors' own Lean function (tested against real Go, not proved from fmt's source: count such statements apart). THE CARD IS WHAT COUNTS. Prove the row's statement (the work); the ties are given (YtgngobcmfflcpaaDoorTie.lean); close each card by the builder's one call (the guide's Derived/Test/ToyasCard.lean, 'card_holds'). Laid BY PROGRAM, IN A SANDBOX (cutbox-door.mjs). By AI agents, Wed Nov 11 2026. No macro, syntax, notation, axiom, sorry.
-/
import Derived.Test.YtgngobcmfflcpaaDoorRows
import GoSem.ClaimSeven
namespace Go.Proofs.YtgngobcmfflcpaaDoor
namespace Rows

/-- THE TIED CARD OF 'suretylaw06.AddrBytes'. -/
def addrBytesCard : Claim7 := { stood := { row := addrBytesRow, standIns := [], harness := (true, "6ea4899579e91e822e135293f24e01ea388d2925f8c1177291dbe0aa9ba30b99"), looks := false }, kinds := [], alts := [], laidByText := true, laidKinds := [.data, .data, .data], laidTests := true, laidLooks := .later }
def AddrBytesCardSaid : Prop := Claim7.holds Tryd.pinned (.plain (OpenSpec.ofChange addrBytesSpec)) addrBytesCard

/-- THE TIED CARD OF 'suretylaw06.AddrSorts'. -/
def addrSortsCard : Claim7 := { stood := { row := addrSortsRow, standIns := [], harness := (true, "6ea4899579e91e822e135293f24e01ea388d2925f8c1177291dbe0aa9ba30b99"), looks := false }, kinds := [], alts := [], laidByText := true, laidKinds := [.data, .data, .data], laidTests := true, laidLooks := .later }
def AddrSortsCardSaid : Prop := Claim7.holds Tryd.pinned (.plain (OpenSpec.ofChange addrSortsSpec)) addrSortsCard

/-- THE SECOND FORM's CARD OF 'suretylaw06.AddrBytes'. -/
def addrBytesUptoCard : Claim7 := { stood := { row := addrBytesUptoRow, standIns := [], harness := (true, "6ea4899579e91e822e135293f24e01ea388d2925f8c1177291dbe0aa9ba30b99"), looks := false }, kinds := [], alts := [], laidByText := true, laidKinds := [.data, .data, .data], laidTests := true, laidLooks := .later }
def AddrBytesUptoCardSaid : Prop := Claim7.holds Tryd.pinned (.plain (OpenSpec.upto addrBytesSpec)) addrBytesUptoCard

/-- THE SECOND FORM's CARD OF 'suretylaw06.AddrSorts'. -/
def addrSortsUptoCard : Claim7 := { stood := { row := addrSortsUptoRow, standIns := [], harness := (true, "6ea4899579e91e822e135293f24e01ea388d2925f8c1177291dbe0aa9ba30b99"), looks := false }, kinds := [], alts := [], laidByText := true, laidKinds := [.data, .data, .data], laidTests := true, laidLooks := .later }
def AddrSortsUptoCardSaid : Prop := Claim7.holds Tryd.pinned (.plain (OpenSpec.upto addrSortsSpec)) addrSortsUptoCard
end Rows
end Go.Proofs.YtgngobcmfflcpaaDoor
