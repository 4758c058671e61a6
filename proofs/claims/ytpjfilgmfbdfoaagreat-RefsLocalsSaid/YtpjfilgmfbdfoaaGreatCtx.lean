/-
  THE SEAT's CONTEXT: its types, its variables, and that the engine's rules hold of its program.
-/
import Derived.Test.YtpjfilgmfbdfoaaGreatEngZ
import Derived.Test.YtpjfilgmfbdfoaaGreatEngTell
import Derived.Test.YtpjfilgmfbdfoaaGreatEngNl
import Derived.Test.YtpjfilgmfbdfoaaGreatProg
import Derived.KernelRfl
namespace Go.Proofs.YtpjfilgmfbdfoaaGreat
open Go.Eng
set_option maxRecDepth 100000
def emp:TypeId→Option Ty
  | 78=>some .toks | 83=>some .parts | 42=>some .strs | 900000=>some .bytes | 47=>some .exprs | 41=>some .vals
  | 36=>some .ints | 39=>some .refs | 69=>some (.map .two .unit) | 900001=>some (.map .int .unit) | 177=>some .strss | 178=>some .intss
  | 56=>some .items | 23=>some .fields | 25=>some .conds | 22=>some .inputs | 24=>some .ress | 131=>some .attrs | 153=>some .rows
  | 900002=>some .askeds | 900003=>some .dpls | 900004=>some .ppls | 158=>some (.map .str .strs) | 900005=>some (.map .two .attr) | 136=>some .types
  | _=>none
def glb:Nat→Option (List (D Pl)):=fun _=>none
def plains:List Nat:=[30,29,32,31,44,43,54,53]
def plainT (t:TypeId):Bool:=memNat plains t
def isM (f:FuncId):Bool:=memNat [20,21,900006,900007] f
noncomputable def X0:Ctx Pl:={ P:=Tryz.prog,C:=plC emp,R:=fun _ _=>none,glob:=glb,plainT:=plainT,N:=1000,noM:=false,isM:=isM }
theorem stood:plains.all (fun t=>!(Tryz.prog.stoodInHeld t)&&!(Tryz.prog.eqGuardType Tryz.prog.depth t))=true:=by kernel_rfl
theorem memNat_mem:∀(l:List Nat) (n:Nat),memNat l n=true→n∈l
  | [],n,h=>by simp [memNat] at h
  | x::r,n,h=>by
    simp only [memNat,Bool.or_eq_true] at h
    rcases h with h | h
    · rw [Nat.eq_of_beq_eq_true h];exact List.mem_cons_self
    · exact List.mem_cons_of_mem _ (memNat_mem r n h)
theorem xok:XOk X0 where
  pay:=plC_ok emp
  plain:=fun t ht=>by
    have h:=List.all_eq_true.1 stood t (memNat_mem _ _ ht)
    rw [Bool.and_eq_true,Bool.not_eq_true',Bool.not_eq_true'] at h
    exact h
  mixed:=by kernel_rfl
noncomputable def F0 (f:FuncId):Option Func:=bif Nat.blt f 111 then (bif Nat.blt 2 f then Tryz.prog.funcs[f]? else none) else none
theorem fok:FOk X0.P F0:=by
  intro f fn h
  unfold F0 at h
  cases h1:Nat.blt f 111 with
  | false=>rw [h1] at h;simp at h
  | true =>
    cases h2:Nat.blt 2 f with
    | false=>rw [h1,h2] at h;simp at h
    | true =>
      rw [h1,h2] at h
      simp only [cond_true] at h
      refine ⟨h,?_⟩
      have hall:(Tryz.prog.funcs.toList.take 111).all (fun fn=>!(fn.name=="runtime.NumGoroutine"))=true:=by kernel_rfl
      rw [List.all_eq_true] at hall
      have hlt:f < 111:=by rw [Nat.blt_eq] at h1;exact h1
      have:fn∈Tryz.prog.funcs.toList.take 111:=by
        refine List.mem_of_getElem? (i:=f) ?_
        rw [List.getElem?_take,if_pos hlt]
        simpa using h
      simpa using hall fn this
end Go.Proofs.YtpjfilgmfbdfoaaGreat
