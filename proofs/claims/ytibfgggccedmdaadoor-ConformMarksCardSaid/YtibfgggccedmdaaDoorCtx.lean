/-
  THE SEAT's CONTEXT: its types, its variables, and that the engine's rules hold of its program.
-/
import Derived.Test.YtibfgggccedmdaaDoorEngZ
import Derived.Test.YtibfgggccedmdaaDoorEngTell
import Derived.Test.YtibfgggccedmdaaDoorProg
import Derived.KernelRfl
namespace Go.Proofs.YtibfgggccedmdaaDoor
open Go.Eng

set_option maxRecDepth 100000

def emp : TypeId → Option Ty
  | 22 => some .vals | 23 => some .strs | 57 => some .attrs | 82 => some .rows | 68 => some (.map .two .attr) | _ => none

def glb : Nat → Option (List (D Pl))
  | 0 => some [dI 3, dI 0] | 1 => some [dI 2, dI 0] | 2 => some [dI 4, dI 2] | 3 => some [dI 5, dI 3] | 4 => some [dI 5, dI 0] | 5 => some [dI 4, dI 3] | _ => none

def plainT (t : TypeId) : Bool := Nat.beq t 25 || (Nat.beq t 24 || (Nat.beq t 40 || (Nat.beq t 39 || (Nat.beq t 37 || (Nat.beq t 36 || (Nat.beq t 71 || Nat.beq t 70))))))

noncomputable def X0 : Ctx Pl := { P := Tryd.prog, C := plC emp, R := fun _ _ => none, glob := glb, plainT := plainT, N := 1000 }

theorem stood : ∀ t ∈ [25, 24, 40, 39, 37, 36, 71, 70], Tryd.prog.stoodInHeld t = false ∧ Tryd.prog.eqGuardType Tryd.prog.depth t = false := by
  intro t ht
  simp only [List.mem_cons, List.not_mem_nil, or_false] at ht
  rcases ht with rfl | rfl | rfl | rfl | rfl | rfl | rfl | rfl <;> exact ⟨by kernel_rfl, by kernel_rfl⟩

theorem xok : XOk X0 where
  pay := plC_ok emp
  plain := fun t ht => by
    refine stood t ?_
    simp only [X0, plainT, Bool.or_eq_true, Nat.beq_eq_true_eq] at ht
    simpa using ht
  mixed := by kernel_rfl

noncomputable def F0 (f : FuncId) : Option Func := bif Nat.blt f 83 then (bif Nat.blt 2 f then Tryd.prog.funcs[f]? else none) else none

theorem fok : FOk X0.P F0 := by
  intro f fn h
  unfold F0 at h
  cases h1 : Nat.blt f 83 with
  | false => rw [h1] at h; simp at h
  | true =>
    cases h2 : Nat.blt 2 f with
    | false => rw [h1, h2] at h; simp at h
    | true =>
      rw [h1, h2] at h
      simp only [cond_true] at h
      refine ⟨h, ?_⟩
      have hall : (Tryd.prog.funcs.toList.take 83).all (fun fn => !(fn.name == "runtime.NumGoroutine")) = true := by kernel_rfl
      rw [List.all_eq_true] at hall
      have hlt : f < 83 := Nat.lt_of_le_of_lt (by simpa [Nat.blt] using h1 : f ≤ 82) (by decide)
      have : fn ∈ Tryd.prog.funcs.toList.take 83 := by
        refine List.mem_of_getElem? (i := f) ?_
        rw [List.getElem?_take, if_pos hlt]
        simpa using h
      simpa using hall fn this

end Go.Proofs.YtibfgggccedmdaaDoor
