/-
  THE SEAT's CONTEXT: its types, its variables, and that the engine's rules hold of its program.
-/
import Derived.Test.YtobleaffkomcmaaGreatDoorEngZ
import Derived.Test.YtobleaffkomcmaaGreatDoorEngTell
import Derived.Test.YtobleaffkomcmaaGreatDoorEngNl
import Derived.Test.YtobleaffkomcmaaGreatDoorProg
import Derived.KernelRfl
namespace Go.Proofs.YtobleaffkomcmaaGreatDoor
open Go.Eng
set_option maxRecDepth 100000
def emp:TypeId→Option Ty
  | 70=>some .toks | 75=>some .parts | 41=>some .strs | 239=>some .bytes | 54=>some .exprs | 51=>some .vals
  | 233=>some .ints | 208=>some .strss | 234=>some .intss
  | 44=>some .items | 24=>some .fields | 26=>some .conds | 23=>some .inputs | 25=>some .ress | 133=>some .attrs | 170=>some .rows
  | 139=>some .types | 175=>some (.map .str .strs) | 250=>some (.map .two .attr) | 223=>some (.map .str .typ)
  | 244=>some (.map .str .int) | 154=>some (.map .str .unit) | 117=>some (.map .three .unit)
  | _=>none
def glb:Nat→Option (List (D Pl))
  | 0=>some [dI 3,dI 0] | 1=>some [dI 2,dI 0] | 2=>some [dI 4,dI 2] | 3=>some [dI 5,dI 3] | 4=>some [dI 5,dI 0] | 5=>some [dI 4,dI 3]
  | 7=>some [.ifa] | 8=>some [.ifa] | _=>none
def plains:List Nat:=[31,30,33,32,50,49,198,197,253,252]
def plainT (t:TypeId):Bool:=memNat plains t
def isM (f:FuncId):Bool:=memNat [52,83,54,55,57,82,80,81,85,107,108,109,110,139,141,167,169,
  113,116,146,173,144,172,191,208,217,218,
  219,220,227,228,233,230,231,235,236,112,
  59,86,87,88,89,90,91,117,118,119,122,123,124,126,127,152,155,61] f
noncomputable def X0:Ctx Pl:={ P:=Tryz.prog,C:=plC emp,R:=fun _ _=>none,glob:=glb,plainT:=plainT,N:=1000,noM:=false,isM:=isM }
theorem stood:plains.all (fun t=>!(Tryz.prog.stoodInHeld t)&&!(Tryz.prog.eqGuardType Tryz.prog.depth t))=true:=by kernel_rfl
theorem memNat_mem:∀(l:List Nat) (n:Nat),memNat l n=true→n∈l
  | [],n,h=>by simp [memNat] at h
  | x::r,n,h=>by
    simp only [memNat,Bool.or_eq_true] at h
    rcases h with h | h
    · rw [Nat.eq_of_beq_eq_true h];exact List.mem_cons_self
    · exact List.mem_cons_of_mem _ (memNat_mem r n h)
theorem xok:XOk X0 where
  pay:=plC_ok emp
  plain:=fun t ht=>by
    have h:=List.all_eq_true.1 stood t (memNat_mem _ _ ht)
    rw [Bool.and_eq_true,Bool.not_eq_true',Bool.not_eq_true'] at h
    exact h
  mixed:=by kernel_rfl
noncomputable def F0 (f:FuncId):Option Func:=bif Nat.blt f 248 then (bif Nat.blt 2 f then Tryz.prog.funcs[f]? else none) else none
theorem fok:FOk X0.P F0:=by
  intro f fn h
  unfold F0 at h
  cases h1:Nat.blt f 248 with
  | false=>rw [h1] at h;simp at h
  | true =>
    cases h2:Nat.blt 2 f with
    | false=>rw [h1,h2] at h;simp at h
    | true =>
      rw [h1,h2] at h
      simp only [cond_true] at h
      refine ⟨h,?_⟩
      have hall:(Tryz.prog.funcs.toList.take 248).all (fun fn=>!(fn.name=="runtime.NumGoroutine"))=true:=by kernel_rfl
      rw [List.all_eq_true] at hall
      have hlt:f < 248:=by rw [Nat.blt_eq] at h1;exact h1
      have:fn∈Tryz.prog.funcs.toList.take 248:=by
        refine List.mem_of_getElem? (i:=f) ?_
        rw [List.getElem?_take,if_pos hlt]
        simpa using h
      simpa using hall fn this
end Go.Proofs.YtobleaffkomcmaaGreatDoor
