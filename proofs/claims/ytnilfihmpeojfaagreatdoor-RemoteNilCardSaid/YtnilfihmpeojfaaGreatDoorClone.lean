/-
  slices.Clone OF TEXTS; schema's attributes of a note.
-/
import Derived.Test.YtnilfihmpeojfaaGreatDoorGreat
namespace Go.Proofs.YtnilfihmpeojfaaGreatDoor
open Go.Eng

set_option maxRecDepth 100000

theorem clone_nil : ev tell0 noTL 3 33 [.pl (pStrs []) (.nil true)] = some .nilS := by kernel_rfl
theorem clone_some (l : List Str) : ev tell0 noTL 3 33 [.pl (pStrs l) (.nil false)] = bif (true && Nat.ble (((pStrs []).l.length + l.length) * 16) big) then some (.ow [] (.pl (pStrs l) .any)) else none := by kernel_rfl
theorem clone_sound (l : List Str) (k : SK) : Snd 33 [.pl (pStrs l) k] (.pl (pStrs l) .any) := by
  refine SoundAt.room (pre := []) (post := []) fun hroom => SoundAt.nilOr (pre := []) (post := []) fun b hb => ?_
  cases b with
  | true =>
    have hl : l = [] := List.length_eq_zero_iff.1 (hb rfl)
    subst hl
    exact (snd_of (tell0_ok _) (noTL_ok _ _) clone_nil).weaken (.nil _ rfl)
  | false =>
    have : Nat.ble (((pStrs []).l.length + l.length) * 16) big = true := by
      rw [Nat.ble_eq]
      have hr : l.length * 16 ≤ big := hroom
      simpa using hr
    exact (snd_of (tell0_ok _) (noTL_ok _ _) ((clone_some l).trans (by rw [this]; rfl))).unow
def pClone : List (D Pl) → Option (Bool × D Pl)
  | [d] => match asL .strs d with
    | some l => some (true, .pl (pStrs l) .any)
    | none => none
  | _ => none
theorem pClone_ok : ∀ ds b d, pClone ds = some (b, d) → b = true → Snd 33 ds d := by
  intro ds b d h hb
  unfold pClone at h
  split at h
  · split at h
    · rename_i l hl
      simp only [Option.some.injEq, Prod.mk.injEq] at h
      obtain ⟨_, rfl⟩ := h
      exact (clone_sound l .any).pre (.cons (asL_rdle hl) .nil)
    · simp at h
  · simp at h
theorem noL_ok (b : Code) : LoopOk X0 noL b := fun S c r h => by simp [noL] at h
end Go.Proofs.YtnilfihmpeojfaaGreatDoor
