/-
  THE SEAT's CONTEXT: its types, its variables, and that the engine's rules hold of its program.
-/
import Derived.Test.YtlfohmdclcdejaaDoorEngY
import Derived.Test.YtlfohmdclcdejaaDoorEngTell
import Derived.Test.YtlfohmdclcdejaaDoorProg
import Derived.KernelRfl
import Derived.Lib.ItoaNum
namespace Go.Proofs.YtlfohmdclcdejaaDoor
open Go.Eng

set_option maxRecDepth 100000

def emp : TypeId → Option Ty
  | 69 => some .ints | 82 => some .bytes | _ => none

/-- internal/strconv.uint64pow10, strconv.ErrSyntax, strconv.ErrRange -/
def glb : Nat → Option (List (D Pl))
  | 1 => some (Lib.pow10Tab.map fun z => .int .u64 z)
  | 2 => some [.ifa]
  | 3 => some [.ifa]
  | _ => none

def plainT (t : TypeId) : Bool := Nat.beq t 26 || (Nat.beq t 25 || (Nat.beq t 23 || Nat.beq t 22))

noncomputable def X0 : Ctx Pl := { P := Tryd.prog, C := plC emp, R := fun _ _ => none, glob := glb, plainT := plainT, N := 1000, own := true }

theorem stood : ∀ t ∈ [26, 25, 23, 22], Tryd.prog.stoodInHeld t = false ∧ Tryd.prog.eqGuardType Tryd.prog.depth t = false := by
  intro t ht
  simp only [List.mem_cons, List.not_mem_nil, or_false] at ht
  rcases ht with rfl | rfl | rfl | rfl <;> exact ⟨by kernel_rfl, by kernel_rfl⟩

theorem xok : XOk X0 where
  pay := plC_ok emp
  plain := fun t ht => by
    refine stood t ?_
    simp only [X0, plainT, Bool.or_eq_true, Nat.beq_eq_true_eq] at ht
    simpa using ht
  mixed := by kernel_rfl

noncomputable def F0 (f : FuncId) : Option Func := bif Nat.blt f 95 then (bif Nat.blt 2 f then Tryd.prog.funcs[f]? else none) else none

theorem fok : FOk X0.P F0 := by
  intro f fn h
  unfold F0 at h
  cases h1 : Nat.blt f 95 with
  | false => rw [h1] at h; simp at h
  | true =>
    cases h2 : Nat.blt 2 f with
    | false => rw [h1, h2] at h; simp at h
    | true =>
      rw [h1, h2] at h
      simp only [cond_true] at h
      refine ⟨h, ?_⟩
      have hall : (Tryd.prog.funcs.toList.take 95).all (fun fn => !(fn.name == "runtime.NumGoroutine")) = true := by kernel_rfl
      rw [List.all_eq_true] at hall
      have hlt : f < 95 := Nat.lt_of_le_of_lt (by simpa [Nat.blt] using h1 : f ≤ 94) (by decide)
      have : fn ∈ Tryd.prog.funcs.toList.take 95 := by
        refine List.mem_of_getElem? (i := f) ?_
        rw [List.getElem?_take, if_pos hlt]
        simpa using h
      simpa using hall fn this

end Go.Proofs.YtlfohmdclcdejaaDoor
