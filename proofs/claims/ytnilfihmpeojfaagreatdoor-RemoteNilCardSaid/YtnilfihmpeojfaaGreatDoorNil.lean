/-
  THE STATEMENT: whatever is asked of a world that is none, it is true.
-/
import Derived.Test.YtnilfihmpeojfaaGreatDoorAwake
namespace Go.Proofs.YtnilfihmpeojfaaGreatDoor
open Go.Eng

set_option maxRecDepth 100000

noncomputable def tN (G : Val → Bool) : Eng.Told Pl := tell 6 pAwake (tell 5 (p1 fun v => (true, .bool (G v))) tell0)
def yesN : Option (D Pl) := some (.bool true)
theorem eNil (k : Int) (a : KeyR) (v u x : Val) (G : Val → Bool) : evF (tN G) noTL noL 9 Tryz.f3 [.agg (cQ k a v u), .agg (cV x)] =
    bif (decide (IntKind.i64.wrap (IntKind.i64.wrap ((a.ty.length : Int) + (a.name.length : Int)) + (a.k.length : Int)) > 300) == false) then
      (bif (G (etaV v) == false) then (bif (G (etaV u) == false) then (bif G (etaV x) then yesN else yesN) else yesN) else yesN) else yesN := by kernel_rfl
theorem nil_sound (k : Int) (a : KeyR) (v u x : Val) : Snd 3 [.agg (cQ k a v u), .agg (cV x)] (.bool true) := by
  obtain ⟨G, hG⟩ := Great_sound
  refine snd_fn (n := 9) (tell_ok pAwake_ok (tell_ok (p1_ok fun v _ => hG v) (tell0_ok _))) (noTL_ok _ _) (fn := Tryz.f3) (by kernel_rfl) (fun _ _ b _ => noL_ok b) ((eNil k a v u x G).trans ?_)
  cases (decide (IntKind.i64.wrap (IntKind.i64.wrap ((a.ty.length : Int) + (a.name.length : Int)) + (a.k.length : Int)) > 300) == false) <;> cases (G (etaV v) == false) <;> cases (G (etaV u) == false) <;> cases G (etaV x) <;> rfl
end Go.Proofs.YtnilfihmpeojfaaGreatDoor
