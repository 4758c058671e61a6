/-
  THE DOCUMENT's EXAMPLE of the lexer comes to true: evaluated whole.
-/
import Derived.Test.YtmhmelmoionoiaaGreatDoorLook
namespace Go.Proofs.YtmhmelmoionoiaaGreatDoor
open Go.Eng

set_option maxRecDepth 100000

theorem awake_sound : Snd 4 [] (.bool true) := snd_of (n := 12) (tLk_ok (tell0_ok _)) (noTL_ok _ _) (by kernel_rfl)

end Go.Proofs.YtmhmelmoionoiaaGreatDoor
