/-
  THE SEAT's CONTEXT: its types, its variables, and that the engine's rules hold of its program.
-/
import Derived.Test.YtnilfihmpeojfaaGreatDoorEngZ
import Derived.Test.YtnilfihmpeojfaaGreatDoorEngTell
import Derived.Test.YtnilfihmpeojfaaGreatDoorProg
import Derived.KernelRfl
namespace Go.Proofs.YtnilfihmpeojfaaGreatDoor
open Go.Eng

set_option maxRecDepth 100000

def emp : TypeId → Option Ty
  | 27 => some .vals | 28 => some .strs | 105 => some .attrs | 51 => some .reqs | 48 => some .things | 59 => some .cues | 69 => some .keys | 154 => some .bytes | 130 => some .ints
  | 58 => some (.map .key .val) | 93 => some (.map .key .unit) | _ => none

def glb : Nat → Option (List (D Pl))
  | 0 => some [dI 3, dI 0] | 1 => some [dI 2, dI 0] | 2 => some [dI 4, dI 2] | 3 => some [dI 5, dI 3] | 4 => some [dI 5, dI 0] | 5 => some [dI 4, dI 3] | _ => none

def plainT (t : TypeId) : Bool := Nat.beq t 26 || (Nat.beq t 25 || (Nat.beq t 23 || (Nat.beq t 22 || (Nat.beq t 30 || (Nat.beq t 29)))))

/-- The functions that write into what they are lent. -/
def isM (f : FuncId) : Bool := memNat [7, 23, 11, 16, 36, 37] f

noncomputable def X0 : Ctx Pl := { P := Tryz.prog, C := plC emp, R := fun _ _ => none, glob := glb, plainT := plainT, N := 1000, noM := false, isM := isM, own := true }

theorem stood : ∀ t ∈ [26, 25, 23, 22, 30, 29], Tryz.prog.stoodInHeld t = false ∧ Tryz.prog.eqGuardType Tryz.prog.depth t = false := by
  intro t ht
  simp only [List.mem_cons, List.not_mem_nil, or_false] at ht
  rcases ht with rfl | rfl | rfl | rfl | rfl | rfl <;> exact ⟨by kernel_rfl, by kernel_rfl⟩

theorem xok : XOk X0 where
  pay := plC_ok emp
  plain := fun t ht => by
    refine stood t ?_
    simp only [X0, plainT, Bool.or_eq_true] at ht
    simpa using ht
  mixed := by kernel_rfl

noncomputable def F0 (f : FuncId) : Option Func := bif Nat.blt f 120 then (bif Nat.blt 2 f then Tryz.prog.funcs[f]? else none) else none

theorem fok : FOk X0.P F0 := by
  intro f fn h
  unfold F0 at h
  cases h1 : Nat.blt f 120 with
  | false => rw [h1] at h; simp at h
  | true =>
    cases h2 : Nat.blt 2 f with
    | false => rw [h1, h2] at h; simp at h
    | true =>
      rw [h1, h2] at h
      simp only [cond_true] at h
      refine ⟨h, ?_⟩
      have hall : (Tryz.prog.funcs.toList.take 120).all (fun fn => !(fn.name == "runtime.NumGoroutine")) = true := by kernel_rfl
      rw [List.all_eq_true] at hall
      have hlt : f < 120 := Nat.lt_of_le_of_lt (by simpa [Nat.blt] using h1 : f ≤ 119) (by decide)
      have : fn ∈ Tryz.prog.funcs.toList.take 120 := by
        refine List.mem_of_getElem? (i := f) ?_
        rw [List.getElem?_take, if_pos hlt]
        simpa using h
      simpa using hall fn this

end Go.Proofs.YtnilfihmpeojfaaGreatDoor
