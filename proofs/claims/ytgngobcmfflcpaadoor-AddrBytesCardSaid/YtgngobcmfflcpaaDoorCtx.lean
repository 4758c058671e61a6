/-
  THE SEAT's CONTEXT: its types, its variables, and that the engine's rules hold of its program.
-/
import Derived.Test.YtgngobcmfflcpaaDoorEngZ
import Derived.Test.YtgngobcmfflcpaaDoorEngTell
import Derived.Test.YtgngobcmfflcpaaDoorProg
import Derived.KernelRfl
namespace Go.Proofs.YtgngobcmfflcpaaDoor
open Go.Eng

set_option maxRecDepth 100000

def emp : TypeId → Option Ty
  | 41 => some .keys | 22 => some .bytes | 98 => some .ints | 64 => some (.map .key .unit) | _ => none

def glb : Nat → Option (List (D Pl)) := fun _ => none

def plainT (t : TypeId) : Bool := Nat.beq t 27 || (Nat.beq t 26 || (Nat.beq t 24 || Nat.beq t 23))

noncomputable def X0 : Ctx Pl := { P := Tryd.prog, C := plC emp, R := fun _ _ => none, glob := glb, plainT := plainT, N := 1000, own := true }

theorem stood : ∀ t ∈ [27, 26, 24, 23], Tryd.prog.stoodInHeld t = false ∧ Tryd.prog.eqGuardType Tryd.prog.depth t = false := by
  intro t ht
  simp only [List.mem_cons, List.not_mem_nil, or_false] at ht
  rcases ht with rfl | rfl | rfl | rfl <;> exact ⟨by kernel_rfl, by kernel_rfl⟩

theorem xok : XOk X0 where
  pay := plC_ok emp
  plain := fun t ht => by
    refine stood t ?_
    simp only [X0, plainT, Bool.or_eq_true, Nat.beq_eq_true_eq] at ht
    simpa using ht
  mixed := by kernel_rfl

noncomputable def F0 (f : FuncId) : Option Func := bif Nat.blt f 100 then (bif Nat.blt 2 f then Tryd.prog.funcs[f]? else none) else none

theorem fok : FOk X0.P F0 := by
  intro f fn h
  unfold F0 at h
  cases h1 : Nat.blt f 100 with
  | false => rw [h1] at h; simp at h
  | true =>
    cases h2 : Nat.blt 2 f with
    | false => rw [h1, h2] at h; simp at h
    | true =>
      rw [h1, h2] at h
      simp only [cond_true] at h
      refine ⟨h, ?_⟩
      have hall : (Tryd.prog.funcs.toList.take 100).all (fun fn => !(fn.name == "runtime.NumGoroutine")) = true := by kernel_rfl
      rw [List.all_eq_true] at hall
      have hlt : f < 100 := Nat.lt_of_le_of_lt (by simpa [Nat.blt] using h1 : f ≤ 99) (by decide)
      have : fn ∈ Tryd.prog.funcs.toList.take 100 := by
        refine List.mem_of_getElem? (i := f) ?_
        rw [List.getElem?_take, if_pos hlt]
        simpa using h
      simpa using hall fn this

/-- The same, where the contracts say, too, that the tape was only drawn on. -/
noncomputable def X1 : Ctx Pl := { P := Tryd.prog, C := plC emp true, R := fun _ _ => none, glob := glb, plainT := plainT, N := 1000 }
theorem xok1 : XOk X1 where
  pay := plC_ok emp true
  plain := fun t ht => by
    refine stood t ?_
    simp only [X1, plainT, Bool.or_eq_true, Nat.beq_eq_true_eq] at ht
    simpa using ht
  mixed := by kernel_rfl

end Go.Proofs.YtgngobcmfflcpaaDoor
