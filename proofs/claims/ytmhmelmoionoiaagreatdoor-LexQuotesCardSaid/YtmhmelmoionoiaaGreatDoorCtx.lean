/-
  THE SEAT's CONTEXT: its types, its variables, and that the engine's rules hold of its program.
-/
import Derived.Test.YtmhmelmoionoiaaGreatDoorEngZ
import Derived.Test.YtmhmelmoionoiaaGreatDoorEngTell
import Derived.Test.YtmhmelmoionoiaaGreatDoorProg
import Derived.KernelRfl
namespace Go.Proofs.YtmhmelmoionoiaaGreatDoor
open Go.Eng

set_option maxRecDepth 100000

def emp : TypeId → Option Ty
  | 24 => some .toks | 32 => some .parts | 48 => some .strs | 92 => some .bytes | _ => none

/-- strconv's two errors: they stand there. -/
def glb : Nat → Option (List (D Pl))
  | 1 => some [.ifa] | 2 => some [.ifa] | _ => none

def plainT (t : TypeId) : Bool := Nat.beq t 27 || (Nat.beq t 26 || (Nat.beq t 29 || (Nat.beq t 28 || (Nat.beq t 36 || Nat.beq t 35))))

/-- The functions that write into what they are lent. -/
def isM (f : FuncId) : Bool := memNat [12, 13, 16, 19, 20, 21, 22, 28, 30, 42, 44] f

noncomputable def X0 : Ctx Pl := { P := Tryz.prog, C := plC emp, R := fun _ _ => none, glob := glb, plainT := plainT, N := 1000, noM := false, isM := isM }

theorem stood : ∀ t ∈ [27, 26, 29, 28, 36, 35], Tryz.prog.stoodInHeld t = false ∧ Tryz.prog.eqGuardType Tryz.prog.depth t = false := by
  intro t ht
  simp only [List.mem_cons, List.not_mem_nil, or_false] at ht
  rcases ht with rfl | rfl | rfl | rfl | rfl | rfl <;> exact ⟨by kernel_rfl, by kernel_rfl⟩

theorem xok : XOk X0 where
  pay := plC_ok emp
  plain := fun t ht => by
    refine stood t ?_
    simp only [X0, plainT, Bool.or_eq_true] at ht
    simpa using ht
  mixed := by kernel_rfl

noncomputable def F0 (f : FuncId) : Option Func := bif Nat.blt f 73 then (bif Nat.blt 2 f then Tryz.prog.funcs[f]? else none) else none

theorem fok : FOk X0.P F0 := by
  intro f fn h
  unfold F0 at h
  cases h1 : Nat.blt f 73 with
  | false => rw [h1] at h; simp at h
  | true =>
    cases h2 : Nat.blt 2 f with
    | false => rw [h1, h2] at h; simp at h
    | true =>
      rw [h1, h2] at h
      simp only [cond_true] at h
      refine ⟨h, ?_⟩
      have hall : (Tryz.prog.funcs.toList.take 73).all (fun fn => !(fn.name == "runtime.NumGoroutine")) = true := by kernel_rfl
      rw [List.all_eq_true] at hall
      have hlt : f < 73 := Nat.lt_of_le_of_lt (by simpa [Nat.blt] using h1 : f ≤ 72) (by decide)
      have : fn ∈ Tryz.prog.funcs.toList.take 73 := by
        refine List.mem_of_getElem? (i := f) ?_
        rw [List.getElem?_take, if_pos hlt]
        simpa using h
      simpa using hall fn this

end Go.Proofs.YtmhmelmoionoiaaGreatDoor
