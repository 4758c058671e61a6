/-
  THE SEAT's CONTEXT: its types, its variables, and that the engine's rules hold of its program.
-/
import Derived.Test.YtondgbiamadehaaDoorEngY
import Derived.Test.YtondgbiamadehaaDoorEngTell
import Derived.Test.YtondgbiamadehaaDoorProg
import Derived.KernelRfl
import Derived.Lib.ItoaNum
namespace Go.Proofs.YtondgbiamadehaaDoor
open Go.Eng

set_option maxRecDepth 100000

def emp : TypeId → Option Ty
  | 47 => some .bytes | _ => none

/-- internal/strconv.uint64pow10, strconv.ErrSyntax, strconv.ErrRange -/
def glb : Nat → Option (List (D Pl))
  | 0 => some (Lib.pow10Tab.map fun z => .int .u64 z)
  | 1 => some [.ifa]
  | 2 => some [.ifa]
  | _ => none

def plainT : TypeId → Bool := fun _ => false

noncomputable def X0 : Ctx Pl := { P := Tryd.prog, C := plC emp, R := fun _ _ => none, glob := glb, plainT := plainT, N := 1000, own := true }

theorem xok : XOk X0 where
  pay := plC_ok emp
  plain := fun t ht => by simp [X0, plainT] at ht
  mixed := by kernel_rfl

noncomputable def F0 (f : FuncId) : Option Func := bif Nat.blt f 67 then (bif Nat.blt 2 f then Tryd.prog.funcs[f]? else none) else none

theorem fok : FOk X0.P F0 := by
  intro f fn h
  unfold F0 at h
  cases h1 : Nat.blt f 67 with
  | false => rw [h1] at h; simp at h
  | true =>
    cases h2 : Nat.blt 2 f with
    | false => rw [h1, h2] at h; simp at h
    | true =>
      rw [h1, h2] at h
      simp only [cond_true] at h
      refine ⟨h, ?_⟩
      have hall : (Tryd.prog.funcs.toList.take 67).all (fun fn => !(fn.name == "runtime.NumGoroutine")) = true := by kernel_rfl
      rw [List.all_eq_true] at hall
      have hlt : f < 67 := Nat.lt_of_le_of_lt (by simpa [Nat.blt] using h1 : f ≤ 66) (by decide)
      have : fn ∈ Tryd.prog.funcs.toList.take 67 := by
        refine List.mem_of_getElem? (i := f) ?_
        rw [List.getElem?_take, if_pos hlt]
        simpa using h
      simpa using hall fn this

end Go.Proofs.YtondgbiamadehaaDoor
