/-
  THE SEAT's CONTEXT: its types, its variables, and that the engine's rules hold of its program.
-/
import Derived.Test.YtlnkjdedeegajaaGreatDoorEngZ
import Derived.Test.YtlnkjdedeegajaaGreatDoorEngTell
import Derived.Test.YtlnkjdedeegajaaGreatDoorEngNl
import Derived.Test.YtlnkjdedeegajaaGreatDoorProg
import Derived.KernelRfl
namespace Go.Proofs.YtlnkjdedeegajaaGreatDoor
open Go.Eng
set_option maxRecDepth 100000
def emp:TypeId→Option Ty
  | 46=>some .toks | 49=>some .parts | 23=>some .strs | 115=>some .bytes | 28=>some .exprs | 22=>some .vals
  | 85=>some .ints | 84=>some .strss | 86=>some .intss | 42=>some .binds | 163=>some .sigs | 142=>some .types
  | 107=>some (.map .str .unit) | 186=>some (.map .str .int) | 199=>some (.map .str .typ)
  | _=>none
def spc:List (D Pl):=(List.range 256).map fun c=>.int .u8 (bif (Nat.beq c 32||(Nat.ble 9 c&&Nat.ble c 13)) then 1 else 0)
def glb:Nat→Option (List (D Pl))
  | 0=>some spc | _=>none
def plains:List Nat:=[30,29,35,34,25,24]
def plainT (t:TypeId):Bool:=memNat plains t
def isM (f:FuncId):Bool:=memNat [11,24,25,31,32,33,34,35,36,37,38,39,40,42,43,44,45,57,71,74,75] f
noncomputable def X0:Ctx Pl:={ P:=Tryz.prog,C:=plC emp,R:=fun _ _=>none,glob:=glb,plainT:=plainT,N:=1000,noM:=false,isM:=isM }
theorem stood:plains.all (fun t=>!(Tryz.prog.stoodInHeld t)&&!(Tryz.prog.eqGuardType Tryz.prog.depth t))=true:=by kernel_rfl
theorem memNat_mem:∀(l:List Nat) (n:Nat),memNat l n=true→n∈l
  | [],n,h=>by simp [memNat] at h
  | x::r,n,h=>by
    simp only [memNat,Bool.or_eq_true] at h
    rcases h with h | h
    · rw [Nat.eq_of_beq_eq_true h];exact List.mem_cons_self
    · exact List.mem_cons_of_mem _ (memNat_mem r n h)
theorem xok:XOk X0 where
  pay:=plC_ok emp
  plain:=fun t ht=>by
    have h:=List.all_eq_true.1 stood t (memNat_mem _ _ ht)
    rw [Bool.and_eq_true,Bool.not_eq_true',Bool.not_eq_true'] at h
    exact h
  mixed:=by kernel_rfl
noncomputable def F0 (f:FuncId):Option Func:=bif Nat.blt f 293 then (bif Nat.blt 2 f then Tryz.prog.funcs[f]? else none) else none
theorem fok:FOk X0.P F0:=by
  intro f fn h
  unfold F0 at h
  cases h1:Nat.blt f 293 with
  | false=>rw [h1] at h;simp at h
  | true =>
    cases h2:Nat.blt 2 f with
    | false=>rw [h1,h2] at h;simp at h
    | true =>
      rw [h1,h2] at h
      simp only [cond_true] at h
      refine ⟨h,?_⟩
      have hall:(Tryz.prog.funcs.toList.take 293).all (fun fn=>!(fn.name=="runtime.NumGoroutine"))=true:=by kernel_rfl
      rw [List.all_eq_true] at hall
      have hlt:f < 293:=by rw [Nat.blt_eq] at h1;exact h1
      have:fn∈Tryz.prog.funcs.toList.take 293:=by
        refine List.mem_of_getElem? (i:=f) ?_
        rw [List.getElem?_take,if_pos hlt]
        simpa using h
      simpa using hall fn this
end Go.Proofs.YtlnkjdedeegajaaGreatDoor
