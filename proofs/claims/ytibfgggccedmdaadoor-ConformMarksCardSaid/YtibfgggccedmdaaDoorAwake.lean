/-
  THE DOCUMENT's EXAMPLE IS SO.
-/
import Derived.Test.YtibfgggccedmdaaDoorObj
namespace Go.Proofs.YtibfgggccedmdaaDoor
open Go.Eng

set_option maxRecDepth 100000

theorem awake_eq : ev (tSA tell0) noTL 20 6 [] = some (.bool true) := by kernel_rfl

theorem awake_sound : Snd 6 [] (.bool true) := snd_of (tSA_ok (tell0_ok _)) (noTL_ok _ _) awake_eq

def pAwake : List (D Pl) → Option (Bool × D Pl)
  | [] => some (true, .bool true)
  | _ => none

theorem pAwake_ok : ∀ ds b d, pAwake ds = some (b, d) → b = true → Snd 6 ds d := by
  intro ds b d h hb
  unfold pAwake at h
  split at h
  · simp only [Option.some.injEq, Prod.mk.injEq] at h
    obtain ⟨_, rfl⟩ := h
    exact awake_sound
  · simp at h

/-- The example, told. -/
def tAwake (R : Eng.Told Pl) : Eng.Told Pl := tell 6 pAwake R
theorem tAwake_ok {R : Eng.Told Pl} (hR : TOk R) : TOk (tAwake R) := tell_ok pAwake_ok hR

end Go.Proofs.YtibfgggccedmdaaDoor
