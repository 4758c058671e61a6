/-
  THE DOCUMENT's ROW, and the types of the texts that stand in the table, by the program and by the document.
-/
import Derived.Test.YtjldjhcadcofoaaGreatDoorCmp
namespace Go.Proofs.YtjldjhcadcofoaaGreatDoor
open Go.Eng

set_option maxRecDepth 100000

def rowL (g : SigR) : List Str := [g.name, g.of', g.to]
def linK (s : Str) : Nat → Nat → Option (D Pl)
  | 0, _ => some .nilS
  | f + 1, i => bif (sg i).name == s then some (.pl (pStrs (rowL (sg i))) .any) else linK s f (i + 1)
theorem eRow (s : Str) : evF tell0 noTL noL 12 Tryz.f7 [.str s] = linK s 42 0 := by kernel_rfl

/-- The types' texts of the table; the types. -/
def typL : List (Str × Int × Int) := [([97, 110, 121], 0, 0), ([98, 111, 111, 108], 1, 0), ([105, 110, 116], 2, 0), ([115, 116, 114], 3, 0), ([108, 105, 115, 116], 4, 0), ([109, 97, 112], 5, 0), ([108, 105, 115, 116, 40, 105, 110, 116, 41], 4, 2), ([108, 105, 115, 116, 40, 115, 116, 114, 41], 4, 3)]
def ty (i : Nat) : Str × Int × Int := typL.getD i default
end Go.Proofs.YtjldjhcadcofoaaGreatDoor
