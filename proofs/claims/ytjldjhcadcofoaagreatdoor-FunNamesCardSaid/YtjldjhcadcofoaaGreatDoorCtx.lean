/-
  THE SEAT's CONTEXT: its types, its variables, and that the engine's rules hold of its program.
-/
import Derived.Test.YtjldjhcadcofoaaGreatDoorEngZ
import Derived.Test.YtjldjhcadcofoaaGreatDoorEngTell
import Derived.Test.YtjldjhcadcofoaaGreatDoorProg
import Derived.KernelRfl
namespace Go.Proofs.YtjldjhcadcofoaaGreatDoor
open Go.Eng

set_option maxRecDepth 100000

def emp : TypeId → Option Ty
  | 25 => some .strs | 23 => some .strss | 53 => some .sigs | 50 => some .types | 37 => some .vals | 102 => some .bytes
  | 80 => some (.map .str .typ) | _ => none

/-- The table of blanks. -/
def spc : List (D Pl) := (List.range 256).map fun c => .int .u8 (bif (Nat.beq c 32 || (Nat.ble 9 c && Nat.ble c 13)) then 1 else 0)
def glb : Nat → Option (List (D Pl))
  | 0 => some spc | _ => none

def plainT (t : TypeId) : Bool := Nat.beq t 27 || Nat.beq t 26

noncomputable def X0 : Ctx Pl := { P := Tryz.prog, C := plC emp, R := fun _ _ => none, glob := glb, plainT := plainT, N := 1000, own := true }

theorem stood : ∀ t ∈ [27, 26], Tryz.prog.stoodInHeld t = false ∧ Tryz.prog.eqGuardType Tryz.prog.depth t = false := by
  intro t ht
  simp only [List.mem_cons, List.not_mem_nil, or_false] at ht
  rcases ht with rfl | rfl <;> exact ⟨by kernel_rfl, by kernel_rfl⟩

theorem xok : XOk X0 where
  pay := plC_ok emp
  plain := fun t ht => by
    refine stood t ?_
    simp only [X0, plainT, Bool.or_eq_true, Nat.beq_eq_true_eq] at ht
    simpa using ht
  mixed := by kernel_rfl

noncomputable def F0 (f : FuncId) : Option Func := bif Nat.blt f 226 then (bif Nat.blt 2 f then Tryz.prog.funcs[f]? else none) else none

theorem fok : FOk X0.P F0 := by
  intro f fn h
  unfold F0 at h
  cases h1 : Nat.blt f 226 with
  | false => rw [h1] at h; simp at h
  | true =>
    cases h2 : Nat.blt 2 f with
    | false => rw [h1, h2] at h; simp at h
    | true =>
      rw [h1, h2] at h
      simp only [cond_true] at h
      refine ⟨h, ?_⟩
      have hall : (Tryz.prog.funcs.toList.take 226).all (fun fn => !(fn.name == "runtime.NumGoroutine")) = true := by kernel_rfl
      rw [List.all_eq_true] at hall
      have hlt : f < 226 := Nat.lt_of_le_of_lt (by simpa [Nat.blt] using h1 : f ≤ 225) (by decide)
      have : fn ∈ Tryz.prog.funcs.toList.take 226 := by
        refine List.mem_of_getElem? (i := f) ?_
        rw [List.getElem?_take, if_pos hlt]
        simpa using h
      simpa using hall fn this

end Go.Proofs.YtjldjhcadcofoaaGreatDoor
