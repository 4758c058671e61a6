/-
  THE DOCUMENT's EXAMPLES of trees come to true: evaluated whole but for the lexer.
-/
import Derived.Test.YtdlgmknlnddioaaGreatDoorAll
namespace Go.Proofs.YtdlgmknlnddioaaGreatDoor
open Go.Eng

set_option maxRecDepth 100000

def tAw : Eng.Told Pl := tell 16 pAll tell0
theorem tAw_ok : TOk tAw := tell_ok pAll_ok (tell0_ok _)
theorem awake_sound : Snd 6 [] (.bool true) := snd_of (n := 40) tAw_ok (noTL_ok _ _) (by kernel_rfl)

end Go.Proofs.YtdlgmknlnddioaaGreatDoor
