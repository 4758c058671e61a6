/-
  THE SEAT's CONTEXT: its types, its variables, and that the engine's rules hold of its program.
-/
import Derived.Test.YtcfdmfijlaafkaaEngZ
import Derived.Test.YtcfdmfijlaafkaaEngTell
import Derived.Test.YtcfdmfijlaafkaaEngNl
import Derived.Test.YtcfdmfijlaafkaaProg
import Derived.KernelRfl
namespace Go.Proofs.Ytcfdmfijlaafkaa
open Go.Eng

set_option maxRecDepth 100000

def emp : TypeId → Option Ty
  | 44 => some .toks | 47 => some .parts | 23 => some .strs | 900000 => some .bytes | 28 => some .exprs | 22 => some .vals
  | 97 => some .ints | 40 => some .refs | 52 => some (.map .two .unit) | 900001 => some (.map .int .unit) | 98 => some .strss | 99 => some .intss
  | 900002 => some .items | 900003 => some .fields | 900004 => some .conds | 900005 => some .inputs | 900006 => some .ress | 900007 => some .attrs | 900008 => some .rows
  | 61 => some .askeds | 900009 => some .dpls | 900010 => some .ppls | 900011 => some (.map .str .strs) | 900012 => some (.map .two .attr) | 900013 => some .types
  | _ => none

def glb : Nat → Option (List (D Pl)) := fun _ => none

def plains : List Nat := [30, 29, 35, 34, 25, 24, 51, 50]
def plainT (t : TypeId) : Bool := memNat plains t

/-- The functions that write into what they are lent. -/
def isM (f : FuncId) : Bool := memNat [12, 13, 900014, 900015] f

noncomputable def X0 : Ctx Pl := { P := Try.prog, C := plC emp, R := fun _ _ => none, glob := glb, plainT := plainT, N := 1000, noM := false, isM := isM }

theorem stood : plains.all (fun t => !(Try.prog.stoodInHeld t) && !(Try.prog.eqGuardType Try.prog.depth t)) = true := by kernel_rfl

theorem memNat_mem : ∀ (l : List Nat) (n : Nat), memNat l n = true → n ∈ l
  | [], n, h => by simp [memNat] at h
  | x :: r, n, h => by
    simp only [memNat, Bool.or_eq_true] at h
    rcases h with h | h
    · rw [Nat.eq_of_beq_eq_true h]; exact List.mem_cons_self
    · exact List.mem_cons_of_mem _ (memNat_mem r n h)

theorem xok : XOk X0 where
  pay := plC_ok emp
  plain := fun t ht => by
    have h := List.all_eq_true.1 stood t (memNat_mem _ _ ht)
    rw [Bool.and_eq_true, Bool.not_eq_true', Bool.not_eq_true'] at h
    exact h
  mixed := by kernel_rfl

noncomputable def F0 (f : FuncId) : Option Func := bif Nat.blt f 72 then (bif Nat.blt 2 f then Try.prog.funcs[f]? else none) else none

theorem fok : FOk X0.P F0 := by
  intro f fn h
  unfold F0 at h
  cases h1 : Nat.blt f 72 with
  | false => rw [h1] at h; simp at h
  | true =>
    cases h2 : Nat.blt 2 f with
    | false => rw [h1, h2] at h; simp at h
    | true =>
      rw [h1, h2] at h
      simp only [cond_true] at h
      refine ⟨h, ?_⟩
      have hall : (Try.prog.funcs.toList.take 72).all (fun fn => !(fn.name == "runtime.NumGoroutine")) = true := by kernel_rfl
      rw [List.all_eq_true] at hall
      have hlt : f < 72 := by rw [Nat.blt_eq] at h1; exact h1
      have : fn ∈ Try.prog.funcs.toList.take 72 := by
        refine List.mem_of_getElem? (i := f) ?_
        rw [List.getElem?_take, if_pos hlt]
        simpa using h
      simpa using hall fn this

end Go.Proofs.Ytcfdmfijlaafkaa
