/-
 THE SCANNER GOES ON BY SOME BYTES; its place.
-/
import Derived.Test.YtcgbgcconigdbaaGreatDoorEngZ
import Derived.Test.YtcgbgcconigdbaaGreatDoorEngTb
import Derived.Test.YtcgbgcconigdbaaGreatDoorProg
import Derived.KernelRfl
namespace Go.Proofs.YtcgbgcconigdbaaGreatDoor
open Go.Eng
set_option maxRecDepth 100000
def emp:TypeId→Option Ty
 | 42=>some .toks | 45=>some .parts | 24=>some .strs | 90=>some .bytes | 29=>some .exprs | 23=>some .vals
 | 900000=>some .ints | 71=>some (.map .str .int) | _=>none
def glb:Nat→Option (List (D Pl))
 | 1=>some [.ifa] | 2=>some [.ifa] | _=>none
def plainT (t:TypeId):Bool:=Nat.beq t 31||(Nat.beq t 30||(Nat.beq t 36||(Nat.beq t 35||(Nat.beq t 26||Nat.beq t 25))))
def isM (f:FuncId):Bool:=memNat [17,18,22,25,26,27,28,34,36,43,45,
 11,14,21,31,19,30,39,47,53,54,
 55,56,71,72,77,74,75,87,88,12] f
noncomputable def X0:Ctx Pl:={ P:=Tryz.prog,C:=plN emp,R:=fun _ _=>none,glob:=glb,plainT:=plainT,N:=1000,noM:=false,isM:=isM }
theorem stood:∀t∈[31,30,36,35,26,25],Tryz.prog.stoodInHeld t=false∧Tryz.prog.eqGuardType Tryz.prog.depth t=false:=by
 intro t ht
 simp only [List.mem_cons,List.not_mem_nil,or_false] at ht
 rcases ht with rfl | rfl | rfl | rfl | rfl | rfl<;>exact ⟨by kernel_rfl,by kernel_rfl⟩
theorem xok:XOk X0 where
 pay:=plN_ok emp
 plain:=fun t ht=>by
  refine stood t ?_
  simp only [X0,plainT,Bool.or_eq_true] at ht
  simpa using ht
 mixed:=by kernel_rfl
noncomputable def F0 (f:FuncId):Option Func:=bif Nat.blt f 103 then (bif Nat.blt 2 f then Tryz.prog.funcs[f]? else none) else none
theorem fok:FOk X0.P F0:=by
 intro f fn h
 unfold F0 at h
 cases h1:Nat.blt f 103 with
 | false=>rw [h1] at h;simp at h
 | true =>
  cases h2:Nat.blt 2 f with
  | false=>rw [h1,h2] at h;simp at h
  | true =>
   rw [h1,h2] at h
   simp only [cond_true] at h
   refine ⟨h,?_⟩
   have hall:(Tryz.prog.funcs.toList.take 103).all (fun fn=>!(fn.name=="runtime.NumGoroutine"))=true:=by kernel_rfl
   rw [List.all_eq_true] at hall
   have hlt:f < 103:=by rw [Nat.blt_eq] at h1;exact h1
   have:fn∈Tryz.prog.funcs.toList.take 103:=by
    refine List.mem_of_getElem? (i:=f) ?_
    rw [List.getElem?_take,if_pos hlt]
    simpa using h
   simpa using hall fn this
end Go.Proofs.YtcgbgcconigdbaaGreatDoor
namespace Go.Proofs.YtcgbgcconigdbaaGreatDoor
open Go.Eng
set_option maxRecDepth 100000
abbrev Snd (f:FuncId) (ds:List (D Pl)) (d:D Pl):Prop:=SoundAt X0.P X0.C X0.glob f ds d
instance:Inhabited (D Pl):=⟨.bad⟩
instance:Inhabited (Ex×St Pl):=⟨(.ret,⟨[],[]⟩)⟩
abbrev TOk (R:Eng.Told Pl):Prop:=ToldOk X0 R
abbrev LOk (TL:LoopsT Pl):Prop:=TLOk X0 F0 TL
noncomputable abbrev ev (R:Eng.Told Pl) (TL:LoopsT Pl) (n:Nat) (f:FuncId) (ds:List (D Pl)):Option (D Pl):=callK X0 F0 R TL n f ds (fun d=>some d)
theorem snd_of {R:Eng.Told Pl} (hR:TOk R) {TL:LoopsT Pl} (hTL:LOk TL) {n:Nat} {f:FuncId} {ds:List (D Pl)} {d:D Pl} (h:ev R TL n f ds=some d) (hlt:Nat.blt f 1000000=true:=by rfl):Snd f ds d:=by
 obtain ⟨e,he,hs⟩:=callK_sound xok fok hR hTL h
 simp only [Option.some.injEq] at he
 subst he
 exact hs.1 hlt
noncomputable abbrev evF (R:Eng.Told Pl) (TL:LoopsT Pl) (L:LK Pl) (n:Nat) (fn:Func) (ds:List (D Pl)):Option (D Pl):=fnK X0 (callK X0 F0 R TL n) L fn ds (fun d=>some d)
theorem snd_fn {R:Eng.Told Pl} (hR:TOk R) {TL:LoopsT Pl} (hTL:LOk TL) {L:LK Pl} {n:Nat} {f:FuncId} {fn:Func} {ds:List (D Pl)} {d:D Pl} (hf:F0 f=some fn) (hL:∀code,fn.body=some code→∀b∈loopsOf code,LoopOk X0 L b)
  (h:evF R TL L n fn ds=some d):Snd f ds d:=by
 obtain ⟨e,he,hs⟩:=bodyK_sound xok fok hR hTL hf hL h
 simp only [Option.some.injEq] at he
 subst he
 exact hs
abbrev SndM (f:FuncId) (H:Obs Pl) (ds:List (D Pl)) (d:D Pl) (H':Obs Pl):Prop:=SoundM X0.P X0.C X0.glob f H ds d H'
noncomputable abbrev evM (R:Eng.Told Pl) (TL:LoopsT Pl) (L:LK Pl) (n:Nat) (fn:Func) (H:Obs Pl) (ds:List (D Pl)):Option (D Pl):=fnM X0 (callK X0 F0 R TL n) L fn H ds (fun d=>some d)
theorem snd_m {R:Eng.Told Pl} (hR:TOk R) {TL:LoopsT Pl} (hTL:LOk TL) {L:LK Pl} {n:Nat} {f:FuncId} {fn:Func} {H:Obs Pl} {ds:List (D Pl)} {d:D Pl} {os:List (D Pl)} (hf:F0 f=some fn) (hL:∀code,fn.body=some code→∀b∈loopsOf code,LoopOk X0 L b)
  (h:evM R TL L n fn H ds=some (.env os d)):SndM f H ds d (decH os):=by
 obtain ⟨os',d',he,hs⟩:=bodyM_sound xok fok hR hTL hf hL h
 simp only [Option.some.injEq,D.env.injEq] at he
 obtain ⟨rfl,rfl⟩:=he
 exact hs
noncomputable abbrev evC (R:Eng.Told Pl) (TL:LoopsT Pl) (L:LK Pl) (n:Nat) (code:Code) (keep:List Nat) (S:St Pl):Option (Ex×St Pl) :=
 exec X0 (callK X0 F0 R TL n) L code S (fun e S=>some (e,maskS (keepOf keep) S))
abbrev GoesTo (code:Code) (S:St Pl) (e:Ex) (S':St Pl):Prop:=Goes X0 code S e S'
theorem goes_of {R:Eng.Told Pl} (hR:TOk R) {TL:LoopsT Pl} (hTL:LOk TL) {L:LK Pl} {n:Nat} {code:Code} {keep:List Nat} {S S':St Pl} {e:Ex} (hL:∀b∈loopsOf code,LoopOk X0 L b)
  (h:evC R TL L n code keep S=some (e,S')):GoesTo code S e S':=by
 obtain ⟨e1,S1,h1,h2⟩:=body_goes xok fok hR hTL hL h
 simp only [Option.some.injEq,Prod.mk.injEq] at h1
 obtain ⟨rfl,rfl⟩:=h1
 exact h2.post _
noncomputable abbrev evD (R:Eng.Told Pl) (TL:LoopsT Pl) (L:LK Pl) (n:Nat) (code:Code) (keep lose:List Nat) (S:St Pl):Option (Ex×St Pl) :=
 exec X0 (callK X0 F0 R TL n) L code S (fun e S=>some (e,normS (keepOf keep) (keepOf lose) S))
theorem goes_ofD {R:Eng.Told Pl} (hR:TOk R) {TL:LoopsT Pl} (hTL:LOk TL) {L:LK Pl} {n:Nat} {code:Code} {keep lose:List Nat} {S S':St Pl} {e:Ex} (hL:∀b∈loopsOf code,LoopOk X0 L b)
  (h:evD R TL L n code keep lose S=some (e,S')):GoesTo code S e S':=by
 obtain ⟨e1,S1,h1,h2⟩:=body_goes xok fok hR hTL hL h
 simp only [Option.some.injEq,Prod.mk.injEq] at h1
 obtain ⟨rfl,rfl⟩:=h1
 exact h2.norm xok _ _
noncomputable def loopsAt (f:FuncId):List Code:=match F0 f with
 | some fn=>match fn.body with
  | some c=>loopsOf c
  | none=>[]
 | none=>[]
noncomputable def loopAt (f:FuncId) (n:Nat):Code:=((loopsAt f)[n]?).getD .skip
theorem loops_of {f:FuncId} {fn:Func} (hf:F0 f=some fn) {L:LK Pl} (h:∀i,i < (loopsAt f).length→LoopOk X0 L (loopAt f i)):∀code,fn.body=some code→∀b∈loopsOf code,LoopOk X0 L b:=by
 intro code hc b hb
 have he:loopsAt f=loopsOf code:=by unfold loopsAt;rw [hf];simp only [hc]
 obtain ⟨i,hi,rfl⟩:=List.mem_iff_getElem.1 hb
 have:=h i (by rw [he];exact hi)
 unfold loopAt at this
 rw [he,List.getElem?_eq_getElem hi] at this
 exact this
theorem noLoops {code:Code} (h:loopsOf code=[]) {L:LK Pl}:∀b∈loopsOf code,LoopOk X0 L b:=by rw [h];intro b hb;simp at hb
theorem loops_0 {f:FuncId} (h:(loopsAt f).length=0) {L:LK Pl}:∀i,i < (loopsAt f).length→LoopOk X0 L (loopAt f i):=by intro i hi;omega
theorem loops_1 {f:FuncId} (h:(loopsAt f).length=1) {L:LK Pl} (h0:LoopOk X0 L (loopAt f 0)):∀i,i < (loopsAt f).length→LoopOk X0 L (loopAt f i):=by
 intro i hi
 obtain rfl:i=0:=by omega
 exact h0
end Go.Proofs.YtcgbgcconigdbaaGreatDoor
namespace Go.Proofs.YtcgbgcconigdbaaGreatDoor
open Go.Eng
theorem wrap_in (n:Int) (h:-9223372036854775808≤n∧n≤9223372036854775807):IntKind.i64.wrap n=n:=by
 rw [IntKind.wrap_i64];omega
theorem wrap_nat {n:Nat} (h:n≤big):IntKind.i64.wrap ((n:Int)+1)=((n+1:Nat):Int):=by
 have hb:big=140737488355328:=rfl
 rw [wrap_in _ (by omega)];rfl
section
variable {β:Type}
def lt_ (i n:Nat) (x y:Option β):Option β:=bif decide ((i:Int) < (n:Int)) then x else y
def ix_ (i n:Nat) (x:Option β):Option β:=bif (true&&decide ((i:Int) < (n:Int))||false) then x else none
def ixo_ (i n:Nat) (g:Bool) (x:Option β):Option β:=bif (true&&decide ((i:Int) < (n:Int))||!g) then x else none
def ck_ (c:Bool) (x:Option β):Option β:=bif c then x else none
theorem lt_t {i n:Nat} (h:i < n) (x y:Option β):lt_ i n x y=x:=by
 unfold lt_;rw [decide_eq_true (show (i:Int) < (n:Int) by omega)];rfl
theorem lt_f {i n:Nat} (h:¬ i < n) (x y:Option β):lt_ i n x y=y:=by
 unfold lt_;rw [decide_eq_false (show ¬ (i:Int) < (n:Int) by omega)];rfl
theorem ix_t {i n:Nat} (h:i < n) (x:Option β):ix_ i n x=x:=by
 unfold ix_;rw [decide_eq_true (show (i:Int) < (n:Int) by omega)];rfl
theorem ixo_t {i n:Nat} (h:i < n) (g:Bool) (x:Option β):ixo_ i n g x=x:=by
 unfold ixo_;rw [decide_eq_true (show (i:Int) < (n:Int) by omega)];rfl
theorem ck_t {c:Bool} (h:c=true) (x:Option β):ck_ c x=x:=by unfold ck_;rw [h];rfl
end
theorem blt_t {a b:Nat} (h:a < b):Nat.blt a b=true:=by rw [Nat.blt_eq];exact h
theorem ble_t {a b:Nat} (h:a≤b):Nat.ble a b=true:=by rw [Nat.ble_eq];exact h
def byt (s:Str) (i:Nat):Int:=Int.ofNat (s.getD i 0).toNat
def pS (f:Str→D Pl):List (D Pl)→Option (Bool×D Pl)
 | [.str s]=>some (true,f s)
 | _=>none
theorem pS_ok {g:FuncId} {f:Str→D Pl} (hf:∀s,Snd g [.str s] (f s)):∀ds b d,pS f ds=some (b,d)→b=true→Snd g ds d:=by
 intro ds b d h hb
 unfold pS at h
 split at h
 ·simp only [Option.some.injEq,Prod.mk.injEq] at h;obtain ⟨_,rfl⟩:=h;exact hf _
 ·simp at h
def pU8 (f:Int→D Pl):List (D Pl)→Option (Bool×D Pl)
 | [.int .u8 c]=>some (true,f c)
 | _=>none
theorem pU8_ok {g:FuncId} {f:Int→D Pl} (hf:∀c,Snd g [.int .u8 c] (f c)):∀ds b d,pU8 f ds=some (b,d)→b=true→Snd g ds d:=by
 intro ds b d h hb
 unfold pU8 at h
 split at h
 ·simp only [Option.some.injEq,Prod.mk.injEq] at h;obtain ⟨_,rfl⟩:=h;exact hf _
 ·simp at h
theorem search_of {R:Eng.Told Pl} (hR:TOk R) {body:Code} (hb:loopsOf body=[]) {k:Nat} {keep keep2:List Nat} {Sf:Nat→St Pl} {S1 S2:St Pl} {S2':Nat→St Pl} {n:Nat} {p:Nat→Bool} {e1 e2:Ex} (h1:e1≠.normal) (h2:e2≠.normal)
  (step:∀i,i < n→evC R noTL noL k body keep (Sf i)=bif p i then some (.normal,Sf (i+1)) else some (e2,S2' i))
  (last:evC R noTL noL k body keep (Sf n)=some (e1,Sf n))
  (hS1:maskS (keepOf keep2) (Sf n)=S1) (hS2:∀i,maskS (keepOf keep2) (S2' i)=S2) :
  Goes X0 (.loop body) (Sf 0) (pickR (.ite ((List.range n).all p) (.leaf e1 S1) (.leaf e2 S2))).1 (pickR (.ite ((List.range n).all p) (.leaf e1 S1) (.leaf e2 S2))).2:=by
 refine loop_search h1 h2 (fun i hi hp=>?_) (fun i hi hp=>?_) ?_
 ·exact goes_of hR (noTL_ok _ _) (noLoops hb) ((step i hi).trans (by rw [hp];rfl))
 ·have:=(goes_of hR (noTL_ok _ _) (noLoops hb) ((step i hi).trans (show _=some (e2,S2' i) by rw [hp];rfl))).post (keepOf keep2)
  rwa [hS2] at this
 ·have:=(goes_of hR (noTL_ok _ _) (noLoops hb) last).post (keepOf keep2)
  rwa [hS1] at this
end Go.Proofs.YtcgbgcconigdbaaGreatDoor
namespace Go.Proofs.YtcgbgcconigdbaaGreatDoor
open Go.Eng
set_option maxRecDepth 100000
def ln (s:Str):Nat→Int
 | 0=>1
 | p+1=>bif byt s p==10 then ln s p+1 else ln s p
def sn (s:Str):Nat→Int
 | 0=>0
 | p+1=>bif byt s p==10 then (p:Int)+1 else sn s p
theorem ln_in (s:Str):∀p,1≤ln s p∧ln s p≤(p:Int)+1
 | 0=>⟨Int.le_refl 1,by simp [ln]⟩
 | p+1=>by
  have h:=ln_in s p
  simp only [ln]
  cases byt s p==10<;>simp only [cond_true,cond_false]<;>omega
theorem sn_in (s:Str):∀p,0≤sn s p∧sn s p≤(p:Int)
 | 0=>⟨Int.le_refl 0,by simp [sn]⟩
 | p+1=>by
  have h:=sn_in s p
  simp only [sn]
  cases byt s p==10<;>simp only [cond_true,cond_false]<;>omega
def bxc (s:Str) (p:Nat) (l t:Int) (r:List (D Pl)):List (D Pl):=.str s::dI p::dI l::dI t::r
def w64 (z:Int):Int:=IntKind.i64.wrap z
theorem ids18:(loopsAt 22).length=1∧firstId (loopAt 22 0)=1∧loopsOf (loopAt 22 0)=[]:=⟨by kernel_rfl,by kernel_rfl,by kernel_rfl⟩
end Go.Proofs.YtcgbgcconigdbaaGreatDoor
