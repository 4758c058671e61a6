/-
  FINDING A FUNCTION: the program's search by halves, as a tree of comparisons.
-/
import Derived.Test.YtjldjhcadcofoaaGreatDoorTab
namespace Go.Proofs.YtjldjhcadcofoaaGreatDoor
open Go.Eng

set_option maxRecDepth 100000

section
variable (C : Str → Str → Int) (T : Str → Int × Int)
def pCmpV : List (D Pl) → Option (Bool × D Pl)
  | [.str a, .str b] => some (true, dI (C a b))
  | _ => none
noncomputable def tF : Eng.Told Pl := tell 34 (pCmpV C) tell0
end

def sg (i : Nat) : SigR := sigL.getD i default
/-- The search by halves; 'k' goes on at its end. -/
def bsK {β : Type} (C : Str → Str → Int) (s : Str) (k : Nat → β) : Nat → Nat → Nat → β
  | 0, i, _ => k i
  | f + 1, i, j => bif Nat.blt i j then (bif decide (C (sg ((i + j) / 2)).name s < 0) then bsK C s k f ((i + j) / 2 + 1) j else bsK C s k f i ((i + j) / 2)) else k i
def nof : Option (D Pl) := some (.tup [.agg [.str [], .str [], .str []], .bool false])
def endF (C : Str → Str → Int) (s : Str) (i : Nat) : Option (D Pl) := bif Nat.blt i 42 then (bif !(C (sg i).name s == 0) then nof else some (.tup [.agg [.str (sg i).name, .str (sg i).of', .str (sg i).to], .bool true])) else nof
theorem eFind (C : Str → Str → Int) (s : Str) : evF (tF C) noTL noL 12 Tryz.f15 [.str s] = bsK C s (endF C s) 7 0 42 := by kernel_rfl
end Go.Proofs.YtjldjhcadcofoaaGreatDoor
