/-
  THE SEAT's CONTEXT: its types, its variables, and that the engine's rules hold of its program.
-/
import Derived.Test.YtdlgmknlnddioaaGreatDoorEngZ
import Derived.Test.YtdlgmknlnddioaaGreatDoorEngTell
import Derived.Test.YtdlgmknlnddioaaGreatDoorProg
import Derived.KernelRfl
namespace Go.Proofs.YtdlgmknlnddioaaGreatDoor
open Go.Eng

set_option maxRecDepth 100000

def emp : TypeId → Option Ty
  | 48 => some .toks | 51 => some .parts | 24 => some .strs | 104 => some .bytes | 29 => some .exprs | 23 => some .vals
  | 41 => some .ints | 85 => some (.map .str .int) | _ => none

/-- strconv's two errors: they stand there. -/
def glb : Nat → Option (List (D Pl))
  | 1 => some [.ifa] | 2 => some [.ifa] | _ => none

def plainT (t : TypeId) : Bool := Nat.beq t 31 || (Nat.beq t 30 || (Nat.beq t 36 || (Nat.beq t 35 || (Nat.beq t 26 || Nat.beq t 25))))

/-- The functions that write into what they are lent. -/
def isM (f : FuncId) : Bool := memNat [28, 29, 37, 40, 41, 42, 43, 51, 53, 60, 62,
  22, 25, 36, 48, 34, 47, 56, 64, 70, 71,
  72, 73, 87, 88, 93, 90, 91, 102, 103, 23] f

noncomputable def X0 : Ctx Pl := { P := Tryz.prog, C := plC emp, R := fun _ _ => none, glob := glb, plainT := plainT, N := 1000, noM := false, isM := isM }

theorem stood : ∀ t ∈ [31, 30, 36, 35, 26, 25], Tryz.prog.stoodInHeld t = false ∧ Tryz.prog.eqGuardType Tryz.prog.depth t = false := by
  intro t ht
  simp only [List.mem_cons, List.not_mem_nil, or_false] at ht
  rcases ht with rfl | rfl | rfl | rfl | rfl | rfl <;> exact ⟨by kernel_rfl, by kernel_rfl⟩

theorem xok : XOk X0 where
  pay := plC_ok emp
  plain := fun t ht => by
    refine stood t ?_
    simp only [X0, plainT, Bool.or_eq_true] at ht
    simpa using ht
  mixed := by kernel_rfl

noncomputable def F0 (f : FuncId) : Option Func := bif Nat.blt f 117 then (bif Nat.blt 2 f then Tryz.prog.funcs[f]? else none) else none

theorem fok : FOk X0.P F0 := by
  intro f fn h
  unfold F0 at h
  cases h1 : Nat.blt f 117 with
  | false => rw [h1] at h; simp at h
  | true =>
    cases h2 : Nat.blt 2 f with
    | false => rw [h1, h2] at h; simp at h
    | true =>
      rw [h1, h2] at h
      simp only [cond_true] at h
      refine ⟨h, ?_⟩
      have hall : (Tryz.prog.funcs.toList.take 117).all (fun fn => !(fn.name == "runtime.NumGoroutine")) = true := by kernel_rfl
      rw [List.all_eq_true] at hall
      have hlt : f < 117 := Nat.lt_of_le_of_lt (by simpa [Nat.blt] using h1 : f ≤ 116) (by decide)
      have : fn ∈ Tryz.prog.funcs.toList.take 117 := by
        refine List.mem_of_getElem? (i := f) ?_
        rw [List.getElem?_take, if_pos hlt]
        simpa using h
      simpa using hall fn this

end Go.Proofs.YtdlgmknlnddioaaGreatDoor
