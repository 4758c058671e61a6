/-
  WHAT THE DOCUMENT's EXAMPLE COMES TO, and a copy of names: contracts that the seat's proofs share.
-/
import Derived.Test.YtgningcnnnjjnaaDoorCtx
namespace Go.Proofs.YtgningcnnnjjnaaDoor
open Go.Eng

set_option maxRecDepth 100000

abbrev Snd (f : FuncId) (ds : List (D Pl)) (d : D Pl) : Prop := SoundAt X0.P X0.C X0.glob f ds d

def told0 : Eng.Told Pl := fun _ _ => none
theorem told0_ok : ToldOk X0 told0 := fun f ds b d h => by simp [told0] at h

instance : Inhabited (D Pl) := ⟨.bad⟩

/-- What evaluation comes to is so. -/
theorem snd_of {R0 : Eng.Told Pl} (h0 : ToldOk X0 R0) {n : Nat} {f : FuncId} {ds : List (D Pl)} {d : D Pl} (h : callK X0 F0 R0 n f ds (fun d => some d) = some d) : Snd f ds d := by
  obtain ⟨e, he, hs⟩ := callK_sound xok fok h0 h
  simp only [Option.some.injEq] at he
  subst he
  exact hs

theorem clone_nil : callK X0 F0 told0 3 37 [.pl (pStrs []) (.nil true)] (fun d => some d) = some .nilS := by kernel_rfl
theorem clone_some (l : List Str) : callK X0 F0 told0 3 37 [.pl (pStrs l) (.nil false)] (fun d => some d) = bif (true && Nat.ble (((pStrs []).l.length + l.length) * 16) big) then some (.pl (pStrs l) .any) else none := by kernel_rfl

theorem clone_sound (l : List Str) (k : SK) : Snd 37 [.pl (pStrs l) k] (.pl (pStrs l) .any) := by
  refine SoundAt.room (pre := []) (post := []) fun hroom => SoundAt.nilOr (pre := []) (post := []) fun b hb => ?_
  cases b with
  | true =>
    have hl : l = [] := List.length_eq_zero_iff.1 (hb rfl)
    subst hl
    exact (snd_of told0_ok clone_nil).weaken (.nil _ rfl)
  | false =>
    refine snd_of told0_ok ((clone_some l).trans ?_)
    have : Nat.ble (((pStrs []).l.length + l.length) * 16) big = true := by
      rw [Nat.ble_eq]
      have hr : l.length * 16 ≤ big := hroom
      simpa using hr
    rw [this]; rfl

def told1 : Eng.Told Pl := fun f ds => match ds with
  | [.pl ⟨.strs, l⟩ _] => bif Nat.beq f 37 then some (true, .pl (pStrs l) .any) else none
  | _ => none

theorem told1_ok : ToldOk X0 told1 := by
  intro f ds b d h hb
  unfold told1 at h
  split at h
  · simp only [Bool.cond_eq_ite] at h
    split at h
    · rename_i hf
      simp only [Option.some.injEq, Prod.mk.injEq] at h
      obtain ⟨_, rfl⟩ := h
      rw [Nat.eq_of_beq_eq_true hf]
      exact clone_sound _ _
    · simp at h
  · simp at h

theorem awake_eq : callK X0 F0 told1 20 8 [] (fun d => some d) = some (.bool true) := by kernel_rfl

theorem awake_sound : Snd 8 [] (.bool true) := snd_of told1_ok awake_eq

/-- The example, told. -/
def toldA (R : Eng.Told Pl) : Eng.Told Pl := fun f ds => match ds with
  | [] => bif Nat.beq f 8 then some (true, .bool true) else R f []
  | ds => R f ds

theorem toldA_ok {R : Eng.Told Pl} (hR : ToldOk X0 R) : ToldOk X0 (toldA R) := by
  intro f ds b d h hb
  unfold toldA at h
  split at h
  · simp only [Bool.cond_eq_ite] at h
    split at h
    · rename_i hf
      simp only [Option.some.injEq, Prod.mk.injEq] at h
      obtain ⟨_, rfl⟩ := h
      rw [Nat.eq_of_beq_eq_true hf]
      exact awake_sound
    · exact hR _ _ _ _ h hb
  · exact hR _ _ _ _ h hb

end Go.Proofs.YtgningcnnnjjnaaDoor
