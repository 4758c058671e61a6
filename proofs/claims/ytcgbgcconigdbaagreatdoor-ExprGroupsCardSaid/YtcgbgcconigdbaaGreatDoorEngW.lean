/-
 THE TYPED LISTS that this project's slices read as, and their laws.
-/
import Derived.Test.YtcgbgcconigdbaaGreatDoorEngU
namespace Go.Eng
open Go.RowKit
variable {α:Type}
def PathK {α γ:Type} (RK:CK α γ):Prop:=∀f ds k c,RK f ds k=some c→∃d,∀k',RK f ds k'=k' d
section
variable {X:Ctx α} {γ:Type} {RK:CK α γ}
theorem runL_path (hP:PathK RK) (ops:Array Oper) (k:List (D α)→Obs α→List Nat→List (List (D α)×Obs α)→Option γ) (c:γ):∀(rest:List Oper) (i:Nat) (tm:List (D α)) (hs:Obs α) (ws:List Nat) (lg:List (List (D α)×Obs α)),
  runL X RK ops i rest tm hs ws lg k=some c→∃tmN hsN wsN lgN,∀k',runL X RK ops i rest tm hs ws lg k'=k' tmN hsN wsN lgN
 | [],i,tm,hs,ws,lg,h=>⟨tm,hs,ws,lg,fun k'=>rfl⟩
 | o::rest,i,tm,hs,ws,lg,h=>by
  simp only [runL] at h ⊢
  split at h
  ·simp at h
  ·rename_i q hq
   cases hcl:isCall o with
   | true =>
    simp only [hcl,cond_true] at h ⊢
    cases hq2:q.2 with
    | false =>
     rw [hq2] at h
     simp only [br,cond_false] at h ⊢
     exact runL_path hP ops k c rest _ _ _ _ _ h
    | true =>
     rw [hq2] at h
     simp only [br,cond_true] at h ⊢
     split at h
     ·split at h
      ·simp at h
      ·rename_i f tops nests H ds ns hco
       obtain ⟨e,hd⟩:=hP _ _ _ _ h
       rw [hd] at h
       simp only [hd]
       split at h
       ·split at h
        ·exact runL_path hP ops k c rest _ _ _ _ _ h
        ·simp at h
       ·simp at h
     ·rename_i f ds ns hco
      obtain ⟨d,hd⟩:=hP _ _ _ _ h
      rw [hd] at h
      simp only [hd]
      obtain ⟨h1,h2⟩:=chk_eq h
      simp only [h1,chk,cond_true]
      cases hbd:bindD hs o.dst d with
      | some x =>
       obtain ⟨m,p,e⟩:=x
       rw [hbd] at h2
       exact runL_path hP ops k c rest _ _ _ _ _ h2
      | none =>
      rw [hbd] at h2
      simp only at h2 ⊢
      cases hb:isNil ns||flat d with
      | true=>rw [hb] at h2;exact runL_path hP ops k c rest _ _ _ _ _ h2
      | false=>rw [hb] at h2;exact runL_path hP ops k c rest _ _ _ _ _ h2
   | false =>
    simp only [hcl,cond_false] at h ⊢
    split at h
    ·rename_i hc
     obtain ⟨h1,h2⟩:=chk_eq h
     simp only [h1,chk,cond_true]
     exact runL_path hP ops k c rest _ _ _ _ _ h2
    ·rename_i tm' hs' hc hgn
     obtain ⟨h1,h2⟩:=chk_eq h
     simp only [h1,chk,cond_true]
     exact runL_path hP ops k c rest _ _ _ _ _ h2
    ·rename_i tm' hs' gd hc hgn
     cases hq2:q.2 with
     | true =>
      rw [hq2] at h
      obtain ⟨h1,h2⟩:=chk_eq (show chk _ _=some c from h)
      simp only [h1,chk,br,cond_true]
      exact runL_path hP ops k c rest _ _ _ _ _ h2
     | false =>
      rw [hq2] at h
      simp only [br,cond_false]
      exact runL_path hP ops k c rest _ _ _ _ _ (show runL _ _ _ _ _ _ _ _ _ _=some c from h)
theorem exec_path (hP:PathK RK) (L:LK α) (c:γ):∀(code:Code) (S:St α) (k:Ex→St α→Option γ),exec X RK L code S k=some c→∃e S',∀k',exec X RK L code S k'=k' e S'
 | .skip,S,k,h=>⟨.normal,S,fun k'=>rfl⟩
 | .region id ops draw,S,k,h=>by
  simp only [exec] at h ⊢
  obtain ⟨h1,h2⟩:=chk_eq h
  obtain ⟨tmN,hsN,wsN,lgN,hp⟩:=runL_path hP ops _ c _ _ _ _ _ _ h2
  rw [hp] at h2
  obtain ⟨h3,h4⟩:=chk_eq h2
  simp only [h1,hp,h3,chk,cond_true]
  exact ⟨_,_,fun k'=>rfl⟩
 | .seq x y,S,k,h=>by
  simp only [exec] at h ⊢
  obtain ⟨e,S1,hp⟩:=exec_path hP L c x S _ h
  rw [hp] at h
  simp only [hp]
  cases e with
  | normal=>exact exec_path hP L c y S1 k h
  | exit id=>exact ⟨_,_,fun k'=>rfl⟩
  | ret=>exact ⟨_,_,fun k'=>rfl⟩
 | .cond x t f,S,k,h=>by
  simp only [exec] at h ⊢
  split at h
  ·rename_i b hb
   cases b with
   | true=>exact exec_path hP L c t S k h
   | false=>exact exec_path hP L c f S k h
  ·simp at h
 | .block id body,S,k,h=>by
  simp only [exec] at h ⊢
  obtain ⟨e,S1,hp⟩:=exec_path hP L c body S _ h
  simp only [hp]
  cases e with
  | normal=>exact ⟨_,_,fun k'=>rfl⟩
  | exit id' =>
   cases hb:Nat.beq id' id with
   | true=>exact ⟨_,_,fun k'=>by simp only [hb];rfl⟩
   | false=>exact ⟨_,_,fun k'=>by simp only [hb];rfl⟩
  | ret=>exact ⟨_,_,fun k'=>rfl⟩
 | .loop body,S,k,h=>by
  simp only [exec] at h ⊢
  cases hl:L (firstId body) S with
  | some r =>
   obtain ⟨b,r⟩:=r
   rw [hl] at h
   obtain ⟨h1,_⟩:=chk_eq h
   exact ⟨(pickR r).1,(pickR r).2,fun k'=>by simp only [h1,chk,cond_true,runR_eq]⟩
  | none =>
  rw [hl] at h
  simp only at h ⊢
  clear hl
  generalize X.N=n at h ⊢
  induction n generalizing S with
  | zero=>simp [loopD] at h
  | succ n ih =>
   simp only [loopD] at h ⊢
   obtain ⟨e,S1,hp⟩:=exec_path hP L c body S _ h
   rw [hp] at h
   simp only [hp]
   cases e with
   | normal=>exact ih S1 h
   | exit id=>exact ⟨_,_,fun k'=>rfl⟩
   | ret=>exact ⟨_,_,fun k'=>rfl⟩
 | .exit id,S,k,h=>⟨_,_,fun k'=>rfl⟩
 | .ret,S,k,h=>⟨_,_,fun k'=>rfl⟩
 | .rangeFunc ..,S,k,h=>by simp [exec] at h
 | .scope ..,S,k,h=>by simp [exec] at h
 | .label ..,S,k,h=>by simp [exec] at h
 | .goto ..,S,k,h=>by simp [exec] at h
 | .refuse ..,S,k,h=>by simp [exec] at h
theorem fnK_path (hP:PathK RK) {L:LK α} {fn:Func} {ds:List (D α)} {k:D α→Option γ} {c:γ} (h:fnK X RK L fn ds k=some c):∃d,∀k',fnK X RK L fn ds k'=k' d:=by
 unfold fnK at h ⊢
 split at h
 ·obtain ⟨e,S',hp⟩:=exec_path hP L c _ _ _ h
  rw [hp] at h
  simp only [hp]
  cases e with
  | exit id=>simp at h
  | normal =>
   simp only at h ⊢
   cases hd:finD X fn S' with
   | none=>rw [hd] at h;simp at h
   | some d=>exact ⟨d,fun k'=>rfl⟩
  | ret =>
   simp only at h ⊢
   cases hd:finD X fn S' with
   | none=>rw [hd] at h;simp at h
   | some d=>exact ⟨d,fun k'=>rfl⟩
 ·simp at h
theorem fnM_path (hP:PathK RK) {L:LK α} {fn:Func} {H:Obs α} {ds:List (D α)} {k:D α→Option γ} {c:γ} (h:fnM X RK L fn H ds k=some c):∃d,∀k',fnM X RK L fn H ds k'=k' d:=by
 unfold fnM at h ⊢
 split at h
 ·obtain ⟨e,S',hp⟩:=exec_path hP L c _ _ _ h
  rw [hp] at h
  simp only [hp]
  cases e with
  | exit id=>simp at h
  | normal =>
   simp only at h ⊢
   cases hd:finM X fn H S' with
   | none=>rw [hd] at h;simp at h
   | some d=>exact ⟨d,fun k'=>rfl⟩
  | ret =>
   simp only at h ⊢
   cases hd:finM X fn H S' with
   | none=>rw [hd] at h;simp at h
   | some d=>exact ⟨d,fun k'=>rfl⟩
 ·simp at h
abbrev Told (α:Type):=FuncId→List (D α)→Option (Bool×D α)
abbrev LoopsT (α:Type):=FuncId→LK α
def callK (X:Ctx α) (F:FuncId→Option Func) (R0:Told α) (TL:LoopsT α):Nat→CK α γ
 | 0,f,ds,k=>match R0 f ds with
  | some (b,d)=>chk b (k d)
  | none=>none
 | n+1,f,ds,k=>match R0 f ds with
  | some (b,d)=>chk b (k d)
  | none=>bif Nat.blt f 1000000 then (match F f with
   | some fn=>fnK X (callK X F R0 TL n) (TL f) fn ds k
   | none=>none) else match F (f - 1000000),ds with
   | some fn,.env os _::args=>fnM X (callK X F R0 TL n) (TL (f - 1000000)) fn (decH os) args k
   | _,_=>none
theorem callK_path (X:Ctx α) (F:FuncId→Option Func) (R0:Told α) (TL:LoopsT α):∀n,PathK (callK (γ:=γ) X F R0 TL n)
 | 0=>by
  intro f ds k c h
  simp only [callK] at h ⊢
  split at h
  ·rename_i b d hr
   obtain ⟨h1,_⟩:=chk_eq h
   exact ⟨d,fun k'=>by simp only [h1,chk,cond_true]⟩
  ·simp at h
 | n+1=>by
  intro f ds k c h
  simp only [callK] at h ⊢
  split at h
  ·rename_i b d hr
   obtain ⟨h1,_⟩:=chk_eq h
   exact ⟨d,fun k'=>by simp only [h1,chk,cond_true]⟩
  ·cases hb:Nat.blt f 1000000 with
   | true =>
    rw [hb] at h
    simp only [cond_true] at h ⊢
    split at h
    ·exact fnK_path (callK_path X F R0 TL n) h
    ·simp at h
   | false =>
    rw [hb] at h
    simp only [cond_false] at h ⊢
    split at h
    ·exact fnM_path (callK_path X F R0 TL n) h
    ·simp at h
def FOk (P:Program) (F:FuncId→Option Func):Prop:=∀f fn,F f=some fn→P.funcs[f]?=some fn∧(fn.name=="runtime.NumGoroutine")=false
def TLOk (X:Ctx α) (F:FuncId→Option Func) (TL:LoopsT α):Prop:=∀f fn code,F f=some fn→fn.body=some code→∀b∈loopsOf code,LoopOk X (TL f) b
def ToldOk (X:Ctx α) (R0:Told α):Prop:=∀f ds b d,R0 f ds=some (b,d)→b=true→SoundG X.P X.C X.glob f ds d
def Fits (X:Ctx α) (F:FuncId→Option Func) (R0:Told α) (TL:LoopsT α) (γ:Type) (n:Nat) (f:FuncId) (ds:List (D α)) (d:D α):Prop :=
 ∀k:D α→Option γ,callK X F R0 TL n f ds k=k d
open Classical in
noncomputable def semR (X:Ctx α) (F:FuncId→Option Func) (R0:Told α) (TL:LoopsT α) (γ:Type) (n:Nat):FuncId→List (D α)→Option (Bool×D α):=fun f ds =>
 if h:∃d,Fits X F R0 TL γ n f ds d then some (true,h.choose) else none
def Ctx.withR (X:Ctx α) (R:FuncId→List (D α)→Option (Bool×D α)):Ctx α:={ X with R:=R }
theorem xok_withR (hX:XOk X) (R:FuncId→List (D α)→Option (Bool×D α)):XOk (X.withR R):=⟨hX.pay,hX.plain,hX.mixed⟩
variable (R:FuncId→List (D α)→Option (Bool×D α)) {L:LK α}
theorem sim_withR {g:Gh} {tm:List (D α)} {hs:Obs α} {a:Act} {w:World}:Sim (X.withR R) g tm hs a w↔Sim X g tm hs a w :=
 ⟨fun h=>⟨h.size,h.tm,h.dfr,h.obs,h.inj,h.own,h.below,h.av0,h.lav,h.top,h.glob⟩,fun h=>⟨h.size,h.tm,h.dfr,h.obs,h.inj,h.own,h.below,h.av0,h.lav,h.top,h.glob⟩⟩
theorem goes_withR {code:Code} {S S':St α} {e:Ex}:Goes (X.withR R) code S e S'↔Goes X code S e S' :=
  ⟨fun h g a w hS hK Q hQ=>h g a w ((sim_withR R).2 hS) hK Q fun rho' a' w' hS' hK'=>hQ rho' a' w' ((sim_withR R).1 hS') hK',
   fun h g a w hS hK Q hQ=>h g a w ((sim_withR R).1 hS) hK Q fun rho' a' w' hS' hK'=>hQ rho' a' w' ((sim_withR R).2 hS') hK'⟩
theorem loopOk_withR {body:Code} (h:LoopOk X L body):LoopOk (X.withR R) L body:=fun S b r h1 h2=>(goes_withR R).2 (h S b r h1 h2)
theorem evK_withR (tm:List (D α)) (ks:List (Nat×Bool)) (x:Operand):evK (X.withR R) tm ks x=evK X tm ks x:=by cases x<;>rfl
theorem evalOp_withR (tm:List (D α)) (hs:Obs α) (ks:List (Nat×Bool)) (o:Oper) (h:isCall o=false):evalOp (X.withR R) tm hs ks o=evalOp X tm hs ks o:=by
 have he:evK (X.withR R)=evK X:=by funext tm ks x;exact evK_withR R tm ks x
 obtain ⟨dst,op,type,pos,after,guard⟩:=o
 cases op
 case call c =>
  obtain ⟨callee,args,argTypes⟩:=c
  cases callee with
  | value f=>simp [isCall] at h
  | invoke r m=>simp only [evalOp]
  | builtin b=>cases b<;>first | (simp only [evalOp,he];done) | (simp only [evalOp,he];rfl)
 case makeFunc fn first cap=>cases fn<;>first | (simp only [evalOp,he];done) | (simp only [evalOp,he];rfl)
 case makeMap t r=>cases r<;>first | (simp only [evalOp];done) | (simp only [evalOp];rfl)
 all_goals first | (simp only [evalOp,he];done) | (simp only [evalOp,he];rfl)
theorem callOf_withR (tm:List (D α)) (hs:Obs α) (ks:List (Nat×Bool)) (o:Oper):callOf (X.withR R) tm hs ks o=callOf X tm hs ks o:=by
 have he:evK (X.withR R)=evK X:=by funext tm ks x;exact evK_withR R tm ks x
 unfold callOf
 simp only [he]
 rfl
theorem runL_withR (ops:Array Oper) (k:List (D α)→Obs α→List Nat→List (List (D α)×Obs α)→Option γ):∀(rest:List Oper) (i:Nat) (tm:List (D α)) (hs:Obs α) (ws:List Nat) (lg:List (List (D α)×Obs α)),
  runL (X.withR R) RK ops i rest tm hs ws lg k=runL X RK ops i rest tm hs ws lg k
 | [],i,tm,hs,ws,lg=>rfl
 | o::rest,i,tm,hs,ws,lg=>by
  have ih:=runL_withR ops k rest
  simp only [runL,ih,callOf_withR]
  split
  ·rfl
  ·cases hcl:isCall o with
   | true=>rfl
   | false=>simp only [cond_false,evalOp_withR R _ _ _ _ hcl]
theorem closedCall_withR (tm:List (D α)) (o:Oper):closedCall (X.withR R) tm o=closedCall X tm o:=by
 have he:evK (X.withR R)=evK X:=by funext tm ks x;exact evK_withR R tm ks x
 unfold closedCall
 simp only [he]
 rfl
theorem runC_withR (F:List Nat):∀(l:List (Oper×(List (D α)×Obs α)×(List (D α)×Obs α))),runC (X.withR R) F l=runC X F l
 | []=>rfl
 | (o,s,s')::r=>by
  have he:evK (X.withR R)=evK X:=by funext tm ks x;exact evK_withR R tm ks x
  have h3:∀tm,touchC (X.withR R) tm o=touchC X tm o:=by
   intro tm
   unfold touchC
   simp only [he]
  cases hc:isCall o with
  | true=>simp only [runC,hc,cond_true,closedCall_withR,h3,runC_withR F r]
  | false =>
   have h1:∀tm hs,evalOp (X.withR R) tm hs [] o=evalOp X tm hs [] o:=fun tm hs=>evalOp_withR R tm hs [] o hc
   have h2:okC0 (X.withR R) F s.1 s.2 o=okC0 X F s.1 s.2 o:=by
    unfold okC0
    simp only [h1,he]
    rfl
   simp only [runC,hc,cond_false,h2,h3,runC_withR F r]
theorem drawC_withR (ops:Array Oper) (lg:List (List (D α)×Obs α)) (tm:List (D α)) (hs:Obs α):drawC (X.withR R) ops lg tm hs=drawC X ops lg tm hs:=by
 unfold drawC
 simp only [runC_withR]
theorem callOfM_withR (tm:List (D α)) (hs:Obs α) (ks:List (Nat×Bool)) (o:Oper):callOfM (X.withR R) tm hs ks o=callOfM X tm hs ks o:=by
 have he:evK (X.withR R)=evK X:=by funext tm ks x;exact evK_withR R tm ks x
 unfold callOfM
 simp only [he]
 rfl
theorem writesW_withR (tm:List (D α)) (hs hs1:Obs α) (o:Oper):writesW (X.withR R) tm hs hs1 o=writesW X tm hs hs1 o:=by
 unfold writesW
 cases hc:isCall o with
 | true=>simp only [cond_true,callW,callOfM_withR,callOf_withR]
 | false =>
  have he:evK (X.withR R)=evK X:=by funext tm ks x;exact evK_withR R tm ks x
  simp only [cond_false]
  unfold writesOf
  simp only [evalOp_withR R tm hs [] o hc,he]
  rfl
theorem runW_withR:∀(l:List (Oper×(List (D α)×Obs α)×(List (D α)×Obs α))),runW (X.withR R) l=runW X l
 | []=>rfl
 | (o,s,s')::r=>by simp only [runW,writesW_withR,runW_withR r]
theorem hoist_call {ops:Array Oper} {K sl:List Nat} {yet:Nat→Bool} {tm0:List (D α)} {hs0:Obs α} {hsl:List Nat} {tm:List (D α)} {hs:Obs α} {o:Oper} (h:isCall o=true):hoistOk X ops K yet sl tm0 hs0 hsl tm hs o=false:=by
 obtain ⟨dst,op,type,pos,after,guard⟩:=o
 cases op<;>simp only [isCall] at h<;>try (simp at h;done)
 simp [hoistOk,pureOp,strSl,freshOp,readsOld]
theorem walkW_withR (ops:Array Oper) (K:List Nat) (yet:Nat→Nat→Bool) (sl:List Nat) (tm0:List (D α)) (hs0:Obs α):∀(l:List (Oper×(List (D α)×Obs α)×(List (D α)×Obs α))) (i:Nat) (hsl:List Nat),walkW (X.withR R) ops K yet sl tm0 hs0 i hsl l=walkW X ops K yet sl tm0 hs0 i hsl l
 | [],_,_=>rfl
 | (o,s,s')::r,i,hsl=>by
  have h2:∀i hsl,hoistOk (X.withR R) ops K (yet i) sl tm0 hs0 hsl s.1 s.2 o=hoistOk X ops K (yet i) sl tm0 hs0 hsl s.1 s.2 o:=by
   intro i hsl
   cases hc:isCall o with
   | true=>rw [hoist_call hc,hoist_call hc]
   | false =>
    have he:evK (X.withR R)=evK X:=by funext tm ks x;exact evK_withR R tm ks x
    unfold hoistOk readsOld
    simp only [evalOp_withR R _ _ [] o hc,he]
    rfl
  simp only [walkW,h2,walkW_withR ops K yet sl tm0 hs0 r]
theorem drawW_withR (ops:Array Oper) (ws:List Nat) (lg:List (List (D α)×Obs α)) (tm:List (D α)) (hs:Obs α):drawW (X.withR R) ops ws lg tm hs=drawW X ops ws lg tm hs:=by
 unfold drawW
 simp only [runW_withR,walkW_withR]
theorem exec_withR:∀(code:Code) (S:St α) (k:Ex→St α→Option γ),exec (X.withR R) RK L code S k=exec X RK L code S k
 | .skip,S,k=>rfl
 | .region id ops draw,S,k=>by simp only [exec,runL_withR,drawC_withR,drawW_withR];rfl
 | .seq x y,S,k=>by
  simp only [exec,exec_withR x]
  congr 1
  funext e S'
  cases e with
  | normal=>exact exec_withR y S' k
  | _=>rfl
 | .cond x t f,S,k=>by simp only [exec,exec_withR t,exec_withR f,evK_withR]
 | .block id body,S,k=>by simp only [exec,exec_withR body]
 | .loop body,S,k=>by
  have:(fun (S:St α) (k:Ex→St α→Option γ)=>exec (X.withR R) RK L body S k)=fun S k=>exec X RK L body S k:=by
   funext S k;exact exec_withR body S k
  simp only [exec,this]
  cases L (firstId body) S<;>rfl
 | .exit id,S,k=>rfl
 | .ret,S,k=>rfl
 | .rangeFunc ..,S,k=>rfl
 | .scope ..,S,k=>rfl
 | .label ..,S,k=>rfl
 | .goto ..,S,k=>rfl
 | .refuse ..,S,k=>rfl
theorem fnK_withR (fn:Func) (ds:List (D α)) (k:D α→Option γ):fnK (X.withR R) RK L fn ds k=fnK X RK L fn ds k:=by
 have h1:∀l:List ResultVar,∀S:St α,resultsOf (X.withR R) S l=resultsOf X S l:=by
  intro l S
  induction l with
  | nil=>rfl
  | cons r l ih=>simp only [resultsOf,ih];cases r<;>rfl
 have h2:∀S:St α,finD (X.withR R) fn S=finD X fn S:=by
  intro S;simp only [finD,h1];rfl
 simp only [fnK,exec_withR,h2]
theorem fnM_withR (fn:Func) (H:Obs α) (ds:List (D α)) (k:D α→Option γ):fnM (X.withR R) RK L fn H ds k=fnM X RK L fn H ds k:=by
 have h1:∀l:List ResultVar,∀S:St α,resultsOf (X.withR R) S l=resultsOf X S l:=by
  intro l S
  induction l with
  | nil=>rfl
  | cons r l ih=>simp only [resultsOf,ih];cases r<;>rfl
 have h2:∀S:St α,finM (X.withR R) fn H S=finM X fn H S:=by
  intro S;simp only [finM,h1];rfl
 simp only [fnM,exec_withR,h2]
theorem Fits.uniq [Inhabited γ] {F:FuncId→Option Func} {R0:Told α} {TL:LoopsT α} {n:Nat} {f:FuncId} {ds:List (D α)} {d d':D α} (h:Fits X F R0 TL γ n f ds d) (h':Fits X F R0 TL γ n f ds d'):d=d':=by
 classical
 have:=(h fun e=>if e=d then some default else none).symm.trans (h' _)
 simp only [if_true] at this
 split at this
 ·rename_i he;exact he.symm
 ·simp at this
theorem ckOk [Inhabited γ] (X:Ctx α) (F:FuncId→Option Func) (R0:Told α) (TL:LoopsT α) (n:Nat):CKOk (X.withR (semR X F R0 TL γ n)) (callK (γ:=γ) X F R0 TL n):=by
 intro f ds k c h
 obtain ⟨d,hd⟩:=callK_path X F R0 TL n f ds k c h
 have hex:∃d,Fits X F R0 TL γ n f ds d:=⟨d,hd⟩
 have:hex.choose=d:=Fits.uniq hex.choose_spec hd
 refine ⟨d,?_,by rw [←hd k];exact h⟩
 show semR X F R0 TL γ n f ds=_
 unfold semR
 rw [dif_pos hex,this]
theorem semOk [Inhabited γ] (hX:XOk X) {F:FuncId→Option Func} (hF:FOk X.P F) {R0:Told α} (h0:ToldOk X R0) {TL:LoopsT α} (hTL:TLOk X F TL):∀(n:Nat) f ds d,Fits X F R0 TL γ n f ds d→SoundG X.P X.C X.glob f ds d:=by
 classical
 intro n
 induction n with
 | zero =>
  intro f ds d h
  have hk:=h fun e=>if e=d then some default else none
  simp only [if_true,callK] at hk
  split at hk
  ·rename_i b e hr
   obtain ⟨h1,h2⟩:=chk_eq hk
   split at h2
   ·rename_i he;subst he;exact h0 _ _ _ _ hr h1
   ·simp at h2
  ·simp at hk
 | succ n ih =>
  intro f ds d h
  have hk:=h fun e=>if e=d then some default else none
  simp only [if_true,callK] at hk
  split at hk
  ·rename_i b e hr
   obtain ⟨h1,h2⟩:=chk_eq hk
   split at h2
   ·rename_i he;subst he;exact h0 _ _ _ _ hr h1
   ·simp at h2
  ·cases hb:Nat.blt f 1000000 with
   | false =>
    rw [hb] at hk
    simp only [cond_false] at hk
    split at hk
    ·rename_i fn os e ds' hfn _
     obtain ⟨h1,h2⟩:=hF _ _ hfn
     have hR:ROk (X.withR (semR X F R0 TL γ n)):=by
      intro f' ds' b' d' hr hb
      have hr:semR X F R0 TL γ n f' ds'=some (b',d'):=hr
      unfold semR at hr
      split at hr
      ·rename_i hex
       simp only [Option.some.injEq,Prod.mk.injEq] at hr
       rw [←hr.2]
       exact ih _ _ _ hex.choose_spec
      ·simp at hr
     rw [←fnM_withR (semR X F R0 TL γ n)] at hk
     obtain ⟨os',d',he,hs⟩:=fnM_sound (xok_withR hX _) hR (ckOk X F R0 TL n) h1 h2 (fun code hc b hb=>loopOk_withR _ (hTL _ fn code hfn hc b hb)) hk
     split at he
     ·rename_i hed
      refine ⟨fun h=>by rw [hb] at h;simp at h,fun _ os1 e1 ds1 os2 d2 hq hq2=>?_⟩
      simp only [List.cons.injEq,D.env.injEq] at hq
      obtain ⟨⟨rfl,rfl⟩,rfl⟩:=hq
      rw [←hed] at hq2
      simp only [D.env.injEq] at hq2
      obtain ⟨rfl,rfl⟩:=hq2
      exact hs
     ·simp at he
    ·simp at hk
   | true =>
   rw [hb] at hk
   simp only [cond_true] at hk
   split at hk
   ·rename_i fn hfn
    obtain ⟨h1,h2⟩:=hF _ _ hfn
    have hR:ROk (X.withR (semR X F R0 TL γ n)):=by
     intro f' ds' b' d' hr hb
     have hr:semR X F R0 TL γ n f' ds'=some (b',d'):=hr
     unfold semR at hr
     split at hr
     ·rename_i hex
      simp only [Option.some.injEq,Prod.mk.injEq] at hr
      rw [←hr.2]
      exact ih _ _ _ hex.choose_spec
     ·simp at hr
    rw [←fnK_withR (semR X F R0 TL γ n)] at hk
    obtain ⟨e,he,hs⟩:=fnK_sound (xok_withR hX _) hR (ckOk X F R0 TL n) h1 h2 (fun code hc b hb=>loopOk_withR _ (hTL f fn code hfn hc b hb)) hk
    split at he
    ·rename_i hed;subst hed;exact ⟨fun _=>hs,fun h=>by rw [hb] at h;simp at h⟩
    ·simp at he
   ·simp at hk
theorem callK_sound [Inhabited γ] (hX:XOk X) {F:FuncId→Option Func} (hF:FOk X.P F) {R0:Told α} (h0:ToldOk X R0) {TL:LoopsT α} (hTL:TLOk X F TL) {n:Nat} {f:FuncId} {ds:List (D α)} {k:D α→Option γ} {c:γ}
  (h:callK X F R0 TL n f ds k=some c):∃d,k d=some c∧SoundG X.P X.C X.glob f ds d:=by
 obtain ⟨d,hd⟩:=callK_path X F R0 TL n f ds k c h
 exact ⟨d,by rw [←hd k];exact h,semOk hX hF h0 hTL n f ds d hd⟩
theorem bodyM_sound [Inhabited γ] (hX:XOk X) {F:FuncId→Option Func} (hF:FOk X.P F) {R0:Told α} (h0:ToldOk X R0) {TL:LoopsT α} (hTL:TLOk X F TL) {n:Nat} {f:FuncId} {fn:Func} {H:Obs α} {ds:List (D α)} {k:D α→Option γ} {c:γ}
  (hf:F f=some fn) (hL:∀code,fn.body=some code→∀b∈loopsOf code,LoopOk X L b) (h:fnM X (callK X F R0 TL n) L fn H ds k=some c):∃os' d',k (.env os' d')=some c∧SoundM X.P X.C X.glob f H ds d' (decH os'):=by
 have hR:ROk (X.withR (semR X F R0 TL γ n)):=by
  intro f' ds' b' d' hr hb
  have hr:semR X F R0 TL γ n f' ds'=some (b',d'):=hr
  unfold semR at hr
  split at hr
  ·rename_i hex
   simp only [Option.some.injEq,Prod.mk.injEq] at hr
   rw [←hr.2]
   exact semOk hX hF h0 hTL n _ _ _ hex.choose_spec
  ·simp at hr
 rw [←fnM_withR (semR X F R0 TL γ n)] at h
 exact fnM_sound (xok_withR hX _) hR (ckOk X F R0 TL n) (hF _ _ hf).1 (hF _ _ hf).2 (fun code hc b hb=>loopOk_withR _ (hL code hc b hb)) h
theorem bodyK_sound [Inhabited γ] (hX:XOk X) {F:FuncId→Option Func} (hF:FOk X.P F) {R0:Told α} (h0:ToldOk X R0) {TL:LoopsT α} (hTL:TLOk X F TL) {n:Nat} {f:FuncId} {fn:Func} {ds:List (D α)} {k:D α→Option γ} {c:γ}
  (hf:F f=some fn) (hL:∀code,fn.body=some code→∀b∈loopsOf code,LoopOk X L b) (h:fnK X (callK X F R0 TL n) L fn ds k=some c):∃d,k d=some c∧SoundAt X.P X.C X.glob f ds d:=by
 have hR:ROk (X.withR (semR X F R0 TL γ n)):=by
  intro f' ds' b' d' hr hb
  have hr:semR X F R0 TL γ n f' ds'=some (b',d'):=hr
  unfold semR at hr
  split at hr
  ·rename_i hex
   simp only [Option.some.injEq,Prod.mk.injEq] at hr
   rw [←hr.2]
   exact semOk hX hF h0 hTL n _ _ _ hex.choose_spec
  ·simp at hr
 rw [←fnK_withR (semR X F R0 TL γ n)] at h
 exact fnK_sound (xok_withR hX _) hR (ckOk X F R0 TL n) (hF _ _ hf).1 (hF _ _ hf).2 (fun code hc b hb=>loopOk_withR _ (hL code hc b hb)) h
theorem body_goes [Inhabited γ] (hX:XOk X) {F:FuncId→Option Func} (hF:FOk X.P F) {R0:Told α} (h0:ToldOk X R0) {TL:LoopsT α} (hTL:TLOk X F TL) {n:Nat} {body:Code} {S:St α} {k:Ex→St α→Option γ} {c:γ}
  (hL:∀b∈loopsOf body,LoopOk X L b) (h:exec X (callK X F R0 TL n) L body S k=some c):∃e S',k e S'=some c∧Goes X body S e S':=by
 have hR:ROk (X.withR (semR X F R0 TL γ n)):=by
  intro f' ds' b' d' hr hb
  have hr:semR X F R0 TL γ n f' ds'=some (b',d'):=hr
  unfold semR at hr
  split at hr
  ·rename_i hex
   simp only [Option.some.injEq,Prod.mk.injEq] at hr
   rw [←hr.2]
   exact semOk hX hF h0 hTL n _ _ _ hex.choose_spec
  ·simp at hr
 rw [←exec_withR (semR X F R0 TL γ n)] at h
 obtain ⟨e,S',h1,h2⟩:=exec_sound (xok_withR hX _) hR (ckOk X F R0 TL n) L c body (fun b hb=>loopOk_withR _ (hL b hb)) S k h
 exact ⟨e,S',h1,(goes_withR _).1 h2⟩
end
end Go.Eng
namespace Go.Eng
abbrev Str:=List UInt8
structure Val where
 kind:Int
 i:Int
 s:Str
 l:List Val
 keys:List Str
 tk:Int
 tof:Int
 sec:Bool
 deriving Inhabited
structure AttrR where
 name:Str
 tk:Int
 tof:Int
 need:Bool
 comp:Bool
 anew:Bool
 own:Bool
 deriving Inhabited
structure KeyR where
 ty:Str
 name:Str
 kind:Int
 i:Int
 k:Str
 n:Int
 deriving Inhabited
structure ActR where
 kind:Int
 k:KeyR
 prior:Val
 want:Val
 ahead:List Int
 deriving Inhabited
structure RowR where
 t:Str
 name:Str
 tk:Int
 tof:Int
 is:Str
 deriving Inhabited
structure PosR where
 at':Int
 line:Int
 col:Int
 deriving Inhabited
structure PartR where
 expr:Bool
 s:Str
 p:PosR
 deriving Inhabited
structure TokR where
 kind:Int
 s:Str
 n:Int
 parts:List PartR
 p:PosR
 deriving Inhabited
structure ExprR where
 op:Int
 s:Str
 s2:Str
 v:Val
 l:List ExprR
 p:PosR
 deriving Inhabited
structure ItemR where
 block:Bool
 name:Str
 labels:List Str
 e:ExprR
 items:List ItemR
 p:PosR
 deriving Inhabited
structure ReqR where
 kind:Int
 k:KeyR
 prior:Val
 want:Val
 deriving Inhabited
structure ThingR where
 k:KeyR
 v:Val
 deriving Inhabited
structure CueR where
 kind:Int
 v:Val
 deriving Inhabited
structure RefR where
 root:Str
 name:Str
 deriving Inhabited
structure BindR where
 name:Str
 v:Val
 deriving Inhabited
structure SigR where
 name:Str
 of':Str
 to:Str
 deriving Inhabited
structure TypR where
 tk:Int
 tof:Int
 deriving Inhabited
structure FieldR where
 name:Str
 e:ExprR
 deriving Inhabited
structure CondR where
 name:Str
 if':ExprR
 say:ExprR
 deriving Inhabited
structure InputR where
 name:Str
 tk:Int
 tof:Int
 has:Bool
 e:ExprR
 p:PosR
 deriving Inhabited
structure ResR where
 ty:Str
 name:Str
 fields:List FieldR
 count:Option ExprR
 each:Option ExprR
 depends:List Str
 guard:Bool
 first:Bool
 ignore:List Str
 trigger:List Str
 pre:List CondR
 post:List CondR
 p:PosR
 deriving Inhabited
structure AskedR where
 r:RefR
 p:PosR
 deriving Inhabited
structure DPlR where
 e:ExprR
 roots:List Str
 t:Str
 deriving Inhabited
structure PPlR where
 e:ExprR
 bare:Bool
 more:List Str
 t:Str
 owner:Int
 deriving Inhabited
inductive KT where
 | str | int | two | key | three
inductive VT where
 | unit | attr | val | int | str | bool | typ | strs | sig
@[reducible] def KT.C:KT→Type
 | .str=>Str
 | .int=>Int
 | .two=>Str×Str
 | .key=>KeyR
 | .three=>Str×Str×Str
@[reducible] def VT.C:VT→Type
 | .unit=>Unit
 | .attr=>AttrR
 | .val=>Val
 | .int=>Int
 | .str=>Str
 | .bool=>Bool
 | .typ=>TypR
 | .strs=>List Str
 | .sig=>SigR
def KT.dflt:(k:KT)→k.C
 | .str=>([]:Str)
 | .int=>(0:Int)
 | .two=>(([],[]):Str×Str)
 | .key=>(⟨[],[],0,0,[],0⟩:KeyR)
 | .three=>(([],[],[]):Str×Str×Str)
def VT.dflt:(v:VT)→v.C
 | .unit=>()
 | .attr=>(⟨[],0,0,false,false,false,false⟩:AttrR)
 | .val=>(⟨0,0,[],[],[],0,0,false⟩:Val)
 | .int=>(0:Int)
 | .str=>([]:Str)
 | .bool=>false
 | .typ=>(⟨0,0⟩:TypR)
 | .strs=>([]:List Str)
 | .sig=>(⟨[],[],[]⟩:SigR)
inductive Ty where
 | bytes | strs | vals | attrs | ints | acts | rows | parts | toks | exprs | items | keys | reqs | things | cues | refs | binds | strss | intss | sigs | types | fields | conds | inputs | ress | askeds | dpls | ppls | bools | boolss | ressm
 | map (k:KT) (v:VT)
@[reducible] def Ty.C:Ty→Type
 | .map k v=>k.C×v.C
 | .bytes=>UInt8
 | .strs=>Str
 | .vals=>Val
 | .attrs=>AttrR
 | .ints=>Int
 | .acts=>ActR
 | .rows=>RowR
 | .parts=>PartR
 | .toks=>TokR
 | .exprs=>ExprR
 | .items=>ItemR
 | .keys=>KeyR
 | .reqs=>ReqR
 | .things=>ThingR
 | .cues=>CueR
 | .refs=>RefR
 | .binds=>BindR
 | .strss=>List Str
 | .intss=>List Int
 | .sigs=>SigR
 | .types=>TypR
 | .fields=>FieldR
 | .conds=>CondR
 | .inputs=>InputR
 | .ress=>ResR
 | .askeds=>AskedR
 | .dpls=>DPlR
 | .ppls=>PPlR
 | .bools=>Bool
 | .boolss=>List Bool
 | .ressm=>ResR
def Ty.dflt:(t:Ty)→t.C
 | .map k v=>(k.dflt,v.dflt)
 | .bytes=>(0:UInt8)
 | .strs=>([]:Str)
 | .vals=>(default:Val)
 | .attrs=>(default:AttrR)
 | .ints=>(0:Int)
 | .acts=>(default:ActR)
 | .rows=>(default:RowR)
 | .parts=>(default:PartR)
 | .toks=>(default:TokR)
 | .exprs=>(default:ExprR)
 | .items=>(default:ItemR)
 | .keys=>(default:KeyR)
 | .reqs=>(default:ReqR)
 | .things=>(default:ThingR)
 | .cues=>(default:CueR)
 | .refs=>(default:RefR)
 | .binds=>(default:BindR)
 | .strss=>([]:List Str)
 | .intss=>([]:List Int)
 | .sigs=>(default:SigR)
 | .types=>(default:TypR)
 | .fields=>(default:FieldR)
 | .conds=>(default:CondR)
 | .inputs=>(default:InputR)
 | .ress=>(default:ResR)
 | .askeds=>(default:AskedR)
 | .dpls=>(default:DPlR)
 | .ppls=>(default:PPlR)
 | .bools=>(false:Bool)
 | .boolss=>([]:List Bool)
 | .ressm=>(default:ResR)
structure Pl where
 t:Ty
 l:List t.C
abbrev pBytes (l:List UInt8):Pl:=⟨.bytes,l⟩
abbrev pStrs (l:List Str):Pl:=⟨.strs,l⟩
abbrev pVals (l:List Val):Pl:=⟨.vals,l⟩
abbrev pInts (l:List Int):Pl:=⟨.ints,l⟩
abbrev pParts (l:List PartR):Pl:=⟨.parts,l⟩
abbrev pToks (l:List TokR):Pl:=⟨.toks,l⟩
abbrev pExprs (l:List ExprR):Pl:=⟨.exprs,l⟩
abbrev pItems (l:List ItemR):Pl:=⟨.items,l⟩
abbrev pFields (l:List FieldR):Pl:=⟨.fields,l⟩
abbrev pConds (l:List CondR):Pl:=⟨.conds,l⟩
abbrev pBools (l:List Bool):Pl:=⟨.bools,l⟩
abbrev pMap (k:KT) (v:VT) (l:List (k.C×v.C)):Pl:=⟨.map k v,l⟩
def dI (n:Int):D Pl:=.int .i64 n
def cV (v:Val):List (D Pl):=[dI v.kind,dI v.i,.str v.s,.pl (pVals v.l) .any,.pl (pStrs v.keys) .any,dI v.tk,dI v.tof,.bool v.sec]
def cA (a:AttrR):List (D Pl):=[.str a.name,dI a.tk,dI a.tof,.bool a.need,.bool a.comp,.bool a.anew,.bool a.own]
def cK (k:KeyR):List (D Pl):=[.str k.ty,.str k.name,dI k.kind,dI k.i,.str k.k,.int .u32 k.n]
def cR (a:RowR):List (D Pl):=[.str a.t,.str a.name,dI a.tk,dI a.tof,.str a.is]
def cPos (p:PosR):List (D Pl):=[dI p.at',dI p.line,dI p.col]
def cPart (p:PartR):List (D Pl):=[.bool p.expr,.str p.s,dI p.p.at',dI p.p.line,dI p.p.col]
def cTok (t:TokR):List (D Pl):=[dI t.kind,.str t.s,dI t.n,.pl (pParts t.parts) .any,dI t.p.at',dI t.p.line,dI t.p.col]
def cExpr (e:ExprR):List (D Pl):=[dI e.op,.str e.s,.str e.s2,dI e.v.kind,dI e.v.i,.str e.v.s,.pl (pVals e.v.l) .any,.pl (pStrs e.v.keys) .any,dI e.v.tk,dI e.v.tof,.bool e.v.sec,
 .pl (pExprs e.l) .any,dI e.p.at',dI e.p.line,dI e.p.col]
def cItem (x:ItemR):List (D Pl):=[.bool x.block,.str x.name,.pl (pStrs x.labels) .any,
 dI x.e.op,.str x.e.s,.str x.e.s2,dI x.e.v.kind,dI x.e.v.i,.str x.e.v.s,.pl (pVals x.e.v.l) .any,.pl (pStrs x.e.v.keys) .any,dI x.e.v.tk,dI x.e.v.tof,.bool x.e.v.sec,
 .pl (pExprs x.e.l) .any,dI x.e.p.at',dI x.e.p.line,dI x.e.p.col,.pl (pItems x.items) .any,dI x.p.at',dI x.p.line,dI x.p.col]
def cAct (a:ActR):List (D Pl):=[dI a.kind,.str a.k.ty,.str a.k.name,dI a.k.kind,dI a.k.i,.str a.k.k,.int .u32 a.k.n,
 dI a.prior.kind,dI a.prior.i,.str a.prior.s,.pl (pVals a.prior.l) .any,.pl (pStrs a.prior.keys) .any,dI a.prior.tk,dI a.prior.tof,.bool a.prior.sec,
 dI a.want.kind,dI a.want.i,.str a.want.s,.pl (pVals a.want.l) .any,.pl (pStrs a.want.keys) .any,dI a.want.tk,dI a.want.tof,.bool a.want.sec,.pl (pInts a.ahead) .any]
def cReq (a:ReqR):List (D Pl):=[dI a.kind,.str a.k.ty,.str a.k.name,dI a.k.kind,dI a.k.i,.str a.k.k,.int .u32 a.k.n,
 dI a.prior.kind,dI a.prior.i,.str a.prior.s,.pl (pVals a.prior.l) .any,.pl (pStrs a.prior.keys) .any,dI a.prior.tk,dI a.prior.tof,.bool a.prior.sec,
 dI a.want.kind,dI a.want.i,.str a.want.s,.pl (pVals a.want.l) .any,.pl (pStrs a.want.keys) .any,dI a.want.tk,dI a.want.tof,.bool a.want.sec]
def cThing (a:ThingR):List (D Pl):=[.str a.k.ty,.str a.k.name,dI a.k.kind,dI a.k.i,.str a.k.k,.int .u32 a.k.n,
 dI a.v.kind,dI a.v.i,.str a.v.s,.pl (pVals a.v.l) .any,.pl (pStrs a.v.keys) .any,dI a.v.tk,dI a.v.tof,.bool a.v.sec]
def cCue (a:CueR):List (D Pl):=[dI a.kind,dI a.v.kind,dI a.v.i,.str a.v.s,.pl (pVals a.v.l) .any,.pl (pStrs a.v.keys) .any,dI a.v.tk,dI a.v.tof,.bool a.v.sec]
def cEx (e:ExprR) (r:List (D Pl)):List (D Pl):=dI e.op::.str e.s::.str e.s2::dI e.v.kind::dI e.v.i::.str e.v.s::.pl (pVals e.v.l) .any::.pl (pStrs e.v.keys) .any::dI e.v.tk::dI e.v.tof::.bool e.v.sec ::
 .pl (pExprs e.l) .any::dI e.p.at'::dI e.p.line::dI e.p.col::r
def cOE (o:Option ExprR):D Pl:=match o with
 | some e=>.ref (cExpr e)
 | none=>.nilP
def cField (x:FieldR):List (D Pl):=.str x.name::cEx x.e []
def cCond (x:CondR):List (D Pl):=.str x.name::cEx x.if' (cEx x.say [])
def cInput (x:InputR):List (D Pl):=.str x.name::dI x.tk::dI x.tof::.bool x.has::cEx x.e [dI x.p.at',dI x.p.line,dI x.p.col]
def cRes (x:ResR):List (D Pl):=[.str x.ty,.str x.name,.pl (pFields x.fields) .any,cOE x.count,cOE x.each,.pl (pStrs x.depends) .any,.bool x.guard,.bool x.first,.pl (pStrs x.ignore) .any,.pl (pStrs x.trigger) .any,
 .pl (pConds x.pre) .any,.pl (pConds x.post) .any,dI x.p.at',dI x.p.line,dI x.p.col]
def cOM (o:Option ExprR):D Pl:=.mref o.isSome (cExpr (o.getD default))
def cResM (x:ResR):List (D Pl):=[.str x.ty,.str x.name,.pl (pFields x.fields) .any,cOM x.count,cOM x.each,.pl (pStrs x.depends) .any,.bool x.guard,.bool x.first,.pl (pStrs x.ignore) .any,.pl (pStrs x.trigger) .any,
 .pl (pConds x.pre) .any,.pl (pConds x.post) .any,dI x.p.at',dI x.p.line,dI x.p.col]
def cAsked (x:AskedR):List (D Pl):=[.str x.r.root,.str x.r.name,dI x.p.at',dI x.p.line,dI x.p.col]
def cDpl (x:DPlR):List (D Pl):=cEx x.e [.pl (pStrs x.roots) .any,.str x.t]
def cPpl (x:PPlR):List (D Pl):=cEx x.e [.bool x.bare,.pl (pStrs x.more) .any,.str x.t,dI x.owner]
def cSig (a:SigR):List (D Pl):=[.str a.name,.str a.of',.str a.to]
def cTyp (a:TypR):List (D Pl):=[dI a.tk,dI a.tof]
def cRef (a:RefR):List (D Pl):=[.str a.root,.str a.name]
def cBind (a:BindR):List (D Pl):=[.str a.name,dI a.v.kind,dI a.v.i,.str a.v.s,.pl (pVals a.v.l) .any,.pl (pStrs a.v.keys) .any,dI a.v.tk,dI a.v.tof,.bool a.v.sec]
def Ty.enc:(t:Ty)→t.C→List (D Pl)
 | .bytes,(b:UInt8)=>[.int .u8 b.toNat]
 | .strs,(s:Str)=>[.str s]
 | .vals,(v:Val)=>cV v
 | .attrs,(a:AttrR)=>cA a
 | .ints,(n:Int)=>[dI n]
 | .acts,(a:ActR)=>cAct a
 | .rows,(a:RowR)=>cR a
 | .parts,(a:PartR)=>cPart a
 | .toks,(a:TokR)=>cTok a
 | .exprs,(a:ExprR)=>cExpr a
 | .items,(a:ItemR)=>cItem a
 | .keys,(a:KeyR)=>cK a
 | .reqs,(a:ReqR)=>cReq a
 | .things,(a:ThingR)=>cThing a
 | .cues,(a:CueR)=>cCue a
 | .refs,(a:RefR)=>cRef a
 | .binds,(a:BindR)=>cBind a
 | .strss,(a:List Str)=>[.pl (pStrs a) .any]
 | .intss,(a:List Int)=>[.pl (pInts a) .any]
 | .sigs,(a:SigR)=>cSig a
 | .types,(a:TypR)=>cTyp a
 | .fields,(a:FieldR)=>cField a
 | .conds,(a:CondR)=>cCond a
 | .inputs,(a:InputR)=>cInput a
 | .ress,(a:ResR)=>cRes a
 | .askeds,(a:AskedR)=>cAsked a
 | .dpls,(a:DPlR)=>cDpl a
 | .ppls,(a:PPlR)=>cPpl a
 | .bools,(a:Bool)=>[.bool a]
 | .boolss,(a:List Bool)=>[.pl (pBools a) .any]
 | .ressm,(a:ResR)=>cResM a
 | .map _ _,_=>[.bad]
def Ty.ez:Ty→Nat
 | .bytes=>1 | .strs=>1 | .vals=>8 | .attrs=>7 | .ints=>1 | .acts=>24 | .rows=>5 | .parts=>5 | .toks=>7 | .exprs=>15 | .items=>22 | .keys=>6 | .reqs=>23 | .things=>14 | .cues=>9 | .refs=>2 | .binds=>9 | .strss=>1 | .intss=>1 | .sigs=>3 | .types=>2 | .fields=>16 | .conds=>31 | .inputs=>22 | .ress=>15 | .askeds=>5 | .dpls=>17 | .ppls=>19 | .bools=>1 | .boolss=>1 | .ressm=>15 | .map _ _=>1
def Ty.by':Ty→Nat
 | .bytes=>1 | .strs=>16 | .vals=>104 | .attrs=>40 | .ints=>8 | .acts=>312 | .rows=>64 | .parts=>48 | .toks=>80 | .exprs=>192 | .items=>288 | .keys=>72 | .reqs=>288 | .things=>176 | .cues=>112 | .refs=>32 | .binds=>120 | .strss=>24 | .intss=>24 | .sigs=>48 | .types=>16 | .fields=>208 | .conds=>400 | .inputs=>256 | .ress=>224 | .askeds=>56 | .dpls=>232 | .ppls=>248 | .bools=>1 | .boolss=>24 | .ressm=>224 | .map _ _=>1
def asL (t:Ty):D Pl→Option (List t.C)
 | .nilS=>some []
 | .pl ⟨s,l⟩ _=>match t,s,l with
  | .vals,.vals,l=>some l
  | .strs,.strs,l=>some l
  | .ints,.ints,l=>some l
  | .parts,.parts,l=>some l
  | .exprs,.exprs,l=>some l
  | .items,.items,l=>some l
  | .fields,.fields,l=>some l
  | .conds,.conds,l=>some l
  | .bools,.bools,l=>some l
  | _,_,_=>none
 | _=>none
def dV:List (D Pl)→Option Val
 | [.int .i64 k,.int .i64 i,.str s,l,ks,.int .i64 tk,.int .i64 tof,.bool sec]=>match asL .vals l,asL .strs ks with
  | some l,some ks=>some ⟨k,i,s,l,ks,tk,tof,sec⟩
  | _,_=>none
 | _=>none
def dA:List (D Pl)→Option AttrR
 | [.str n,.int .i64 tk,.int .i64 tof,.bool a,.bool b,.bool c,.bool d]=>some ⟨n,tk,tof,a,b,c,d⟩
 | _=>none
def dR:List (D Pl)→Option RowR
 | [.str t,.str n,.int .i64 tk,.int .i64 tof,.str s]=>some ⟨t,n,tk,tof,s⟩
 | _=>none
def dPart:List (D Pl)→Option PartR
 | [.bool e,.str s,.int .i64 a,.int .i64 b,.int .i64 c]=>some ⟨e,s,⟨a,b,c⟩⟩
 | _=>none
def dTok:List (D Pl)→Option TokR
 | [.int .i64 k,.str s,.int .i64 n,ps,.int .i64 a,.int .i64 b,.int .i64 c]=>match asL .parts ps with
  | some ps=>some ⟨k,s,n,ps,⟨a,b,c⟩⟩
  | none=>none
 | _=>none
def dExpr:List (D Pl)→Option ExprR
 | [.int .i64 op,.str s,.str s2,.int .i64 k,.int .i64 i,.str vs,l,ks,.int .i64 tk,.int .i64 tof,.bool sec,x,.int .i64 a,.int .i64 b,.int .i64 c]=>match asL .vals l,asL .strs ks,asL .exprs x with
  | some l,some ks,some x=>some ⟨op,s,s2,⟨k,i,vs,l,ks,tk,tof,sec⟩,x,⟨a,b,c⟩⟩
  | _,_,_=>none
 | _=>none
def dItem:List (D Pl)→Option ItemR
 | [.bool bl,.str name,lb,.int .i64 op,.str s,.str s2,.int .i64 k,.int .i64 i,.str vs,l,ks,.int .i64 tk,.int .i64 tof,.bool sec,x,.int .i64 a,.int .i64 b,.int .i64 c,y,.int .i64 a',.int .i64 b',.int .i64 c'] =>
  match asL .strs lb,asL .vals l,asL .strs ks,asL .exprs x,asL .items y with
  | some lb,some l,some ks,some x,some y=>some ⟨bl,name,lb,⟨op,s,s2,⟨k,i,vs,l,ks,tk,tof,sec⟩,x,⟨a,b,c⟩⟩,y,⟨a',b',c'⟩⟩
  | _,_,_,_,_=>none
 | _=>none
def dAct:List (D Pl)→Option ActR
  | [.int .i64 kind,.str ty,.str name,.int .i64 kk,.int .i64 ki,.str k,.int .u32 n,
     .int .i64 pk,.int .i64 pi,.str ps,pl,pks,.int .i64 ptk,.int .i64 ptof,.bool psec,
     .int .i64 wk,.int .i64 wi,.str ws,wl,wks,.int .i64 wtk,.int .i64 wtof,.bool wsec,ah]=>match asL .vals pl,asL .strs pks,asL .vals wl,asL .strs wks,asL .ints ah with
    | some pl,some pks,some wl,some wks,some ah=>some ⟨kind,⟨ty,name,kk,ki,k,n⟩,⟨pk,pi,ps,pl,pks,ptk,ptof,psec⟩,⟨wk,wi,ws,wl,wks,wtk,wtof,wsec⟩,ah⟩
    | _,_,_,_,_=>none
  | _=>none
def dKey:List (D Pl)→Option KeyR
 | [.str ty,.str name,.int .i64 kk,.int .i64 ki,.str k,.int .u32 n]=>some ⟨ty,name,kk,ki,k,n⟩
 | _=>none
def dReq:List (D Pl)→Option ReqR
  | [.int .i64 kind,.str ty,.str name,.int .i64 kk,.int .i64 ki,.str k,.int .u32 n,
     .int .i64 pk,.int .i64 pi,.str ps,pl,pks,.int .i64 ptk,.int .i64 ptof,.bool psec,
     .int .i64 wk,.int .i64 wi,.str ws,wl,wks,.int .i64 wtk,.int .i64 wtof,.bool wsec]=>match asL .vals pl,asL .strs pks,asL .vals wl,asL .strs wks with
    | some pl,some pks,some wl,some wks=>some ⟨kind,⟨ty,name,kk,ki,k,n⟩,⟨pk,pi,ps,pl,pks,ptk,ptof,psec⟩,⟨wk,wi,ws,wl,wks,wtk,wtof,wsec⟩⟩
    | _,_,_,_=>none
  | _=>none
def dThing:List (D Pl)→Option ThingR
 | [.str ty,.str name,.int .i64 kk,.int .i64 ki,.str k,.int .u32 n,.int .i64 pk,.int .i64 pi,.str ps,pl,pks,.int .i64 ptk,.int .i64 ptof,.bool psec]=>match asL .vals pl,asL .strs pks with
  | some pl,some pks=>some ⟨⟨ty,name,kk,ki,k,n⟩,⟨pk,pi,ps,pl,pks,ptk,ptof,psec⟩⟩
  | _,_=>none
 | _=>none
def dCue:List (D Pl)→Option CueR
 | [.int .i64 kind,.int .i64 pk,.int .i64 pi,.str ps,pl,pks,.int .i64 ptk,.int .i64 ptof,.bool psec]=>match asL .vals pl,asL .strs pks with
  | some pl,some pks=>some ⟨kind,⟨pk,pi,ps,pl,pks,ptk,ptof,psec⟩⟩
  | _,_=>none
 | _=>none
def dSig:List (D Pl)→Option SigR
 | [.str a,.str b,.str c]=>some ⟨a,b,c⟩
 | _=>none
def dTyp:List (D Pl)→Option TypR
 | [.int .i64 a,.int .i64 b]=>some ⟨a,b⟩
 | _=>none
def dRef:List (D Pl)→Option RefR
 | [.str a,.str b]=>some ⟨a,b⟩
 | _=>none
def dBind:List (D Pl)→Option BindR
 | [.str name,.int .i64 pk,.int .i64 pi,.str ps,pl,pks,.int .i64 ptk,.int .i64 ptof,.bool psec]=>match asL .vals pl,asL .strs pks with
  | some pl,some pks=>some ⟨name,⟨pk,pi,ps,pl,pks,ptk,ptof,psec⟩⟩
  | _,_=>none
 | _=>none
def dSS:List (D Pl)→Option (List Str)
 | [l]=>asL .strs l
 | _=>none
def dNN:List (D Pl)→Option (List Int)
 | [l]=>asL .ints l
 | _=>none
def dEx (cs:List (D Pl)):Option (ExprR×List (D Pl)):=match cs with
 | .int .i64 op::.str s::.str s2::.int .i64 k::.int .i64 i::.str vs::l::ks::.int .i64 tk::.int .i64 tof::.bool sec::x::.int .i64 a::.int .i64 b::.int .i64 c::r=>match asL .vals l,asL .strs ks,asL .exprs x with
  | some l,some ks,some x=>some (⟨op,s,s2,⟨k,i,vs,l,ks,tk,tof,sec⟩,x,⟨a,b,c⟩⟩,r)
  | _,_,_=>none
 | _=>none
def dOE:D Pl→Option (Option ExprR)
 | .nilP=>some none
 | .ref cs=>match dEx cs with
  | some (e,[])=>some (some e)
  | _=>none
 | _=>none
def dField:List (D Pl)→Option FieldR
 | .str n::r=>match dEx r with
  | some (e,[])=>some ⟨n,e⟩
  | _=>none
 | _=>none
def dCond:List (D Pl)→Option CondR
 | .str n::r=>match dEx r with
  | some (e,r)=>(match dEx r with
   | some (f,[])=>some ⟨n,e,f⟩
   | _=>none)
  | none=>none
 | _=>none
def dInput:List (D Pl)→Option InputR
 | .str n::.int .i64 tk::.int .i64 tof::.bool h::r=>match dEx r with
  | some (e,[.int .i64 a,.int .i64 b,.int .i64 c])=>some ⟨n,tk,tof,h,e,⟨a,b,c⟩⟩
  | _=>none
 | _=>none
def dRes:List (D Pl)→Option ResR
 | [.str ty,.str n,fs,co,ea,de,.bool g,.bool f,ig,tr,pr,po,.int .i64 a,.int .i64 b,.int .i64 c]=>match asL .fields fs,dOE co,dOE ea,asL .strs de,asL .strs ig,asL .strs tr,asL .conds pr,asL .conds po with
  | some fs,some co,some ea,some de,some ig,some tr,some pr,some po=>some ⟨ty,n,fs,co,ea,de,g,f,ig,tr,pr,po,⟨a,b,c⟩⟩
  | _,_,_,_,_,_,_,_=>none
 | _=>none
def dAsked:List (D Pl)→Option AskedR
 | [.str a,.str b,.int .i64 x,.int .i64 y,.int .i64 z]=>some ⟨⟨a,b⟩,⟨x,y,z⟩⟩
 | _=>none
def dDpl (cs:List (D Pl)):Option DPlR:=match dEx cs with
 | some (e,[l,.str t])=>(match asL .strs l with
  | some l=>some ⟨e,l,t⟩
  | none=>none)
 | _=>none
def dPpl (cs:List (D Pl)):Option PPlR:=match dEx cs with
 | some (e,[.bool b,l,.str t,.int .i64 o])=>(match asL .strs l with
  | some l=>some ⟨e,b,l,t,o⟩
  | none=>none)
 | _=>none
def dBo:List (D Pl)→Option Bool
 | [.bool b]=>some b
 | _=>none
def dBB:List (D Pl)→Option (List Bool)
 | [l]=>asL .bools l
 | _=>none
def dB:List (D Pl)→Option UInt8
 | [.int .u8 n]=>some (UInt8.ofNat n.toNat)
 | _=>none
def dS:List (D Pl)→Option Str
 | [.str s]=>some s
 | _=>none
def dN:List (D Pl)→Option Int
 | [.int .i64 n]=>some n
 | _=>none
def Ty.dec:(t:Ty)→List (D Pl)→Option t.C
 | .bytes,cs=>dB cs
 | .strs,cs=>dS cs
 | .vals,cs=>dV cs
 | .attrs,cs=>dA cs
 | .ints,cs=>dN cs
 | .acts,cs=>dAct cs
 | .rows,cs=>dR cs
 | .parts,cs=>dPart cs
 | .toks,cs=>dTok cs
 | .exprs,cs=>dExpr cs
 | .items,cs=>dItem cs
 | .keys,cs=>dKey cs
 | .reqs,cs=>dReq cs
 | .things,cs=>dThing cs
 | .cues,cs=>dCue cs
 | .refs,cs=>dRef cs
 | .binds,cs=>dBind cs
 | .strss,cs=>dSS cs
 | .intss,cs=>dNN cs
 | .sigs,cs=>dSig cs
 | .types,cs=>dTyp cs
 | .fields,cs=>dField cs
 | .conds,cs=>dCond cs
 | .inputs,cs=>dInput cs
 | .ress,cs=>dRes cs
 | .askeds,cs=>dAsked cs
 | .dpls,cs=>dDpl cs
 | .ppls,cs=>dPpl cs
 | .bools,cs=>dBo cs
 | .boolss,cs=>dBB cs
 | .ressm,_=>none
 | .map _ _,_=>none
def KT.enc:(k:KT)→k.C→D Pl
 | .str,(s:Str)=>.str s
 | .int,(n:Int)=>dI n
 | .two,(x:Str×Str)=>.agg [.str x.1,.str x.2]
 | .key,(x:KeyR)=>.agg (cK x)
 | .three,(x:Str×Str×Str)=>.agg [.str x.1,.str x.2.1,.str x.2.2]
def KT.dec:(k:KT)→D Pl→Option k.C
 | .str,.str s=>some s
 | .int,.int .i64 n=>some n
 | .two,.agg [.str a,.str b]=>some (a,b)
 | .key,.agg cs=>dKey cs
 | .three,.agg [.str a,.str b,.str c]=>some (a,b,c)
 | _,_=>none
def KT.eq:(k:KT)→k.C→k.C→Bool
 | .str,(a:Str),(b:Str)=>a==b
 | .int,(a:Int),(b:Int)=>a==b
 | .two,(a:Str×Str),(b:Str×Str)=>a.1==b.1&&a.2==b.2
 | .key,(a:KeyR),(b:KeyR)=>a.ty==b.ty&&(a.name==b.name&&(a.kind==b.kind&&(a.i==b.i&&(a.k==b.k&&a.n==b.n))))
 | .three,(a:Str×Str×Str),(b:Str×Str×Str)=>a.1==b.1&&(a.2.1==b.2.1&&a.2.2==b.2.2)
def VT.enc:(v:VT)→v.C→D Pl
 | .unit,_=>.agg []
 | .attr,(a:AttrR)=>.agg (cA a)
 | .val,(a:Val)=>.agg (cV a)
 | .int,(n:Int)=>dI n
 | .str,(s:Str)=>.str s
 | .bool,(b:Bool)=>.bool b
 | .typ,(a:TypR)=>.agg (cTyp a)
 | .strs,(a:List Str)=>.pl (pStrs a) .any
 | .sig,(a:SigR)=>.agg (cSig a)
def VT.dec:(v:VT)→D Pl→Option v.C
 | .unit,.agg []=>some ()
 | .attr,.agg cs=>dA cs
 | .val,.agg cs=>dV cs
 | .int,.int .i64 n=>some n
 | .str,.str s=>some s
 | .bool,.bool b=>some b
 | .typ,.agg cs=>dTyp cs
 | .strs,d=>asL .strs d
 | .sig,.agg cs=>dSig cs
 | _,_=>none
def getM {k:KT} {v:VT}:List (k.C×v.C)→k.C→v.C
 | [],_=>v.dflt
 | e::r,x=>bif k.eq e.1 x then e.2 else getM r x
def hasM {k:KT} {v:VT}:List (k.C×v.C)→k.C→Bool
 | [],_=>false
 | e::r,x=>bif k.eq e.1 x then true else hasM r x
def putM {k:KT} {v:VT}:List (k.C×v.C)→k.C→v.C→List (k.C×v.C)
 | [],x,y=>[(x,y)]
 | e::r,x,y=>bif k.eq e.1 x then (x,y)::r else e::putM r x y
def mgetP (p:Pl) (d:D Pl):Option (D Pl×Bool):=match p with
 | ⟨.map k v,l⟩=>match k.dec d with
  | some x=>some (v.enc (getM (k:=k) (v:=v) l x),hasM (k:=k) (v:=v) l x)
  | none=>none
 | _=>none
def mputP (p:Pl) (d e:D Pl):Option Pl:=match p with
 | ⟨.map k v,l⟩=>match k.dec d,v.dec e with
  | some x,some y=>some ⟨.map k v,putM (k:=k) (v:=v) l x y⟩
  | _,_=>none
 | _=>none
def castL:(a b:Ty)→List b.C→Option (List a.C)
 | .bytes,.bytes,l=>some l
 | .strs,.strs,l=>some l
 | .vals,.vals,l=>some l
 | .attrs,.attrs,l=>some l
 | .ints,.ints,l=>some l
 | .acts,.acts,l=>some l
 | .rows,.rows,l=>some l
 | .parts,.parts,l=>some l
 | .toks,.toks,l=>some l
 | .exprs,.exprs,l=>some l
 | .items,.items,l=>some l
 | .keys,.keys,l=>some l
 | .reqs,.reqs,l=>some l
 | .things,.things,l=>some l
 | .cues,.cues,l=>some l
 | .refs,.refs,l=>some l
 | .binds,.binds,l=>some l
 | .strss,.strss,l=>some l
 | .intss,.intss,l=>some l
 | .sigs,.sigs,l=>some l
 | .types,.types,l=>some l
 | .fields,.fields,l=>some l
 | .conds,.conds,l=>some l
 | .inputs,.inputs,l=>some l
 | .ress,.ress,l=>some l
 | .askeds,.askeds,l=>some l
 | .dpls,.dpls,l=>some l
 | .ppls,.ppls,l=>some l
 | .bools,.bools,l=>some l
 | .boolss,.boolss,l=>some l
 | .ressm,.ressm,l=>some l
 | _,_,_=>none
def plC (emp:TypeId→Option Ty) (dr:Bool:=false):Pay Pl where
 dr:=dr
 esz:=fun p=>p.t.ez
 bys:=fun p=>p.t.by'
 len:=fun p=>p.l.length
 elem:=fun p i=>p.t.enc (p.l.getD i p.t.dflt)
 emp:=fun t=>match emp t with
  | some t=>some ⟨t,[]⟩
  | none=>none
 snoc:=fun p cs=>match p.t.dec cs with
  | some x=>some ⟨p.t,p.l++[x]⟩
  | none=>none
 cat:=fun p q=>match castL p.t q.t q.l with
  | some l=>some ⟨p.t,p.l++l⟩
  | none=>none
 cut:=fun p i n=>⟨p.t,(p.l.drop i).take n⟩
 set:=fun p i cs=>match p.t.dec cs with
  | some x=>some ⟨p.t,p.l.set i x⟩
  | none=>none
 rep:=fun t n=>match emp t with
  | some .ints=>some ⟨.ints,List.replicate n 0⟩
  | some .bools=>some ⟨.bools,List.replicate n false⟩
  | _=>none
 bytes:=fun p=>match p with
  | ⟨.bytes,l⟩=>some l
  | _=>none
 ofBytes:=fun _ l=>some (pBytes l)
 memp:=fun t=>match emp t with
  | some (.map k v)=>some ⟨.map k v,[]⟩
  | _=>none
 mkey:=fun p i=>match p with
  | ⟨.map k v,l⟩=>k.enc (l.getD i (k.dflt,v.dflt)).1
  | _=>.nilM
 mval:=fun p i=>match p with
  | ⟨.map k v,l⟩=>v.enc (l.getD i (k.dflt,v.dflt)).2
  | _=>.nilM
 mzero:=fun p=>match p with
  | ⟨.map _ v,_⟩=>v.enc v.dflt
  | _=>.nilM
 mget:=mgetP
 mput:=mputP
theorem asL_le {C:Pay Pl} (hC:∀t,C.len ⟨t,[]⟩=0) {t:Ty} {d:D Pl} {l:List t.C} (h:asL t d=some l):Dle C d (.pl ⟨t,l⟩ .any):=by
 unfold asL at h
 split at h
 ·simp only [Option.some.injEq] at h
  subst h
  exact .nil _ (hC t)
 ·split at h<;>first | (simp only [Option.some.injEq] at h;subst h;exact .any _ _) | simp at h
 ·simp at h
inductive All2 (C:Pay Pl):List (D Pl)→List (D Pl)→Prop
 | nil:All2 C [] []
 | cons {d d':D Pl} {r r':List (D Pl)} (h:Dle C d d') (hr:All2 C r r'):All2 C (d::r) (d'::r')
theorem All2.spec {C:Pay Pl} {cs es:List (D Pl)} (h:All2 C cs es):cs.length=es.length∧∀(j:Nat) d d',cs[j]?=some d→es[j]?=some d'→Dle C d d':=by
 induction h with
 | nil=>exact ⟨rfl,fun j d d' h=>by simp at h⟩
 | cons h _ ih =>
  refine ⟨by simp [ih.1],fun j d d' hd hd'=>?_⟩
  cases j with
  | zero=>simp only [List.getElem?_cons_zero,Option.some.injEq] at hd hd';subst hd hd';exact h
  | succ j=>exact ih.2 j d d' (by simpa using hd) (by simpa using hd')
theorem Ty.enc_len (t:Ty) (x:t.C):(t.enc x).length=t.ez:=by cases t<;>rfl
theorem Ty.enc_clo (t:Ty) (x:t.C):∀d∈t.enc x,closed d=true:=by
 have h:closedL (t.enc x)=true:=by
  cases t<;>first | rfl | (obtain ⟨ty,n,fs,co,ea,de,g,f,ig,tr,pr,po,p⟩:=x;cases co<;>cases ea<;>rfl)
 have:∀l:List (D Pl),closedL l=true→∀d∈l,closed d=true:=by
  intro l
  induction l with
  | nil=>intro _ d hd;simp at hd
  | cons e r ih =>
   intro h d hd
   simp only [closedL,Bool.and_eq_true] at h
   rcases List.mem_cons.1 hd with rfl | hd
   ·exact h.1
   ·exact ih h.2 d hd
 exact this _ h
theorem All2.of1 {C:Pay Pl} {d d':D Pl} {r r':List (D Pl)} (h:d=d') (hr:All2 C r r'):All2 C (d::r) (d'::r'):=by subst h;exact .cons (.same _) hr
theorem All2.len {C:Pay Pl} {a b:List (D Pl)} (h:All2 C a b):a.length=b.length:=by induction h<;>simp_all
theorem dEx_all {C:Pay Pl} (hC:∀t,C.len ⟨t,[]⟩=0) {cs r:List (D Pl)} {e:ExprR} (h:dEx cs=some (e,r)) {r':List (D Pl)} (hr:All2 C r r'):All2 C cs (cEx e r'):=by
 unfold dEx at h
 split at h
 ·split at h
  ·rename_i h1 h2 h3
   simp only [Option.some.injEq,Prod.mk.injEq] at h
   obtain ⟨rfl,rfl⟩:=h
   exact .of1 rfl (.of1 rfl (.of1 rfl (.of1 rfl (.of1 rfl (.of1 rfl (.cons (asL_le hC h1) (.cons (asL_le hC h2) (.of1 rfl (.of1 rfl (.of1 rfl (.cons (asL_le hC h3) (.of1 rfl (.of1 rfl (.of1 rfl hr))))))))))))))
  ·simp at h
 ·simp at h
theorem dOE_le {C:Pay Pl} (hC:∀t,C.len ⟨t,[]⟩=0) {d:D Pl} {o:Option ExprR} (h:dOE d=some o):Dle C d (cOE o):=by
 unfold dOE at h
 split at h
 ·simp only [Option.some.injEq] at h;subst h;exact .same _
 ·split at h
  ·rename_i e he
   simp only [Option.some.injEq] at h
   subst h
   have:=(dEx_all hC he (r':=[]) .nil).spec
   exact .ref _ _ this.1 this.2
  ·simp at h
 ·simp at h
theorem Ty.dec_enc {C:Pay Pl} (hC:∀t,C.len ⟨t,[]⟩=0) (t:Ty) (cs:List (D Pl)) (x:t.C) (h:t.dec cs=some x):All2 C cs (t.enc x):=by
 cases t with
 | bytes =>
  simp only [Ty.dec,dB] at h
  split at h
  ·rename_i n
   simp only [Option.some.injEq] at h
   subst h
   cases hr:inR .u8 n with
   | false=>exact .cons (.vac _ _ fun cx v h=>by cases h;simp_all) .nil
   | true =>
    refine .of1 ?_ .nil
    have:=inR_of hr
    simp only [lo,hi] at this
    obtain ⟨m,rfl⟩:=Int.eq_ofNat_of_zero_le this.1
    have hm:m < 256:=by omega
    simp [UInt8.toNat_ofNat',Nat.mod_eq_of_lt hm]
  ·simp at h
 | strs =>
  simp only [Ty.dec,dS] at h
  split at h
  ·simp only [Option.some.injEq] at h;subst h;exact .of1 rfl .nil
  ·simp at h
 | ints =>
  simp only [Ty.dec,dN] at h
  split at h
  ·simp only [Option.some.injEq] at h;subst h;exact .of1 rfl .nil
  ·simp at h
 | vals =>
  simp only [Ty.dec,dV] at h
  split at h
  ·split at h
   ·rename_i h1 h2
    simp only [Option.some.injEq] at h
    subst h
    exact .of1 rfl (.of1 rfl (.of1 rfl (.cons (asL_le hC h1) (.cons (asL_le hC h2) (.of1 rfl (.of1 rfl (.of1 rfl .nil)))))))
   ·simp at h
  ·simp at h
 | attrs =>
  simp only [Ty.dec,dA] at h
  split at h
  ·simp only [Option.some.injEq] at h
   subst h
   exact .of1 rfl (.of1 rfl (.of1 rfl (.of1 rfl (.of1 rfl (.of1 rfl (.of1 rfl .nil))))))
  ·simp at h
 | rows =>
  simp only [Ty.dec,dR] at h
  split at h
  ·simp only [Option.some.injEq] at h
   subst h
   exact .of1 rfl (.of1 rfl (.of1 rfl (.of1 rfl (.of1 rfl .nil))))
  ·simp at h
 | parts =>
  simp only [Ty.dec,dPart] at h
  split at h
  ·simp only [Option.some.injEq] at h
   subst h
   exact .of1 rfl (.of1 rfl (.of1 rfl (.of1 rfl (.of1 rfl .nil))))
  ·simp at h
 | toks =>
  simp only [Ty.dec,dTok] at h
  split at h
  ·split at h
   ·rename_i h1
    simp only [Option.some.injEq] at h
    subst h
    exact .of1 rfl (.of1 rfl (.of1 rfl (.cons (asL_le hC h1) (.of1 rfl (.of1 rfl (.of1 rfl .nil))))))
   ·simp at h
  ·simp at h
 | exprs =>
  simp only [Ty.dec,dExpr] at h
  split at h
  ·split at h
   ·rename_i h1 h2 h3
    simp only [Option.some.injEq] at h
    subst h
    exact .of1 rfl (.of1 rfl (.of1 rfl (.of1 rfl (.of1 rfl (.of1 rfl (.cons (asL_le hC h1) (.cons (asL_le hC h2) (.of1 rfl (.of1 rfl (.of1 rfl (.cons (asL_le hC h3) (.of1 rfl (.of1 rfl (.of1 rfl .nil))))))))))))))
   ·simp at h
  ·simp at h
 | items =>
  simp only [Ty.dec,dItem] at h
  split at h
  ·split at h
   ·rename_i h0 h1 h2 h3 h4
    simp only [Option.some.injEq] at h
    subst h
    exact .of1 rfl (.of1 rfl (.cons (asL_le hC h0) (.of1 rfl (.of1 rfl (.of1 rfl (.of1 rfl (.of1 rfl (.of1 rfl (.cons (asL_le hC h1) (.cons (asL_le hC h2) (.of1 rfl (.of1 rfl (.of1 rfl (.cons (asL_le hC h3) (.of1 rfl (.of1 rfl (.of1 rfl
     (.cons (asL_le hC h4) (.of1 rfl (.of1 rfl (.of1 rfl .nil)))))))))))))))))))))
   ·simp at h
  ·simp at h
 | keys =>
  simp only [Ty.dec,dKey] at h
  split at h
  ·simp only [Option.some.injEq] at h
   subst h
   exact .of1 rfl (.of1 rfl (.of1 rfl (.of1 rfl (.of1 rfl (.of1 rfl (.nil))))))
  ·simp at h
 | refs =>
  simp only [Ty.dec,dRef] at h
  split at h
  ·simp only [Option.some.injEq] at h
   subst h
   exact .of1 rfl (.of1 rfl (.nil))
  ·simp at h
 | sigs =>
  simp only [Ty.dec,dSig] at h
  split at h
  ·simp only [Option.some.injEq] at h
   subst h
   exact .of1 rfl (.of1 rfl (.of1 rfl .nil))
  ·simp at h
 | types =>
  simp only [Ty.dec,dTyp] at h
  split at h
  ·simp only [Option.some.injEq] at h
   subst h
   exact .of1 rfl (.of1 rfl .nil)
  ·simp at h
 | fields =>
  simp only [Ty.dec,dField] at h
  split at h
  ·split at h
   ·rename_i h1
    simp only [Option.some.injEq] at h
    subst h
    exact .of1 rfl (dEx_all hC h1 .nil)
   ·simp at h
  ·simp at h
 | conds =>
  simp only [Ty.dec,dCond] at h
  split at h
  ·split at h
   ·rename_i h1
    split at h
    ·rename_i h2
     simp only [Option.some.injEq] at h
     subst h
     exact .of1 rfl (dEx_all hC h1 (dEx_all hC h2 .nil))
    ·simp at h
   ·simp at h
  ·simp at h
 | inputs =>
  simp only [Ty.dec,dInput] at h
  split at h
  ·split at h
   ·rename_i h1
    simp only [Option.some.injEq] at h
    subst h
    exact .of1 rfl (.of1 rfl (.of1 rfl (.of1 rfl (dEx_all hC h1 (.of1 rfl (.of1 rfl (.of1 rfl .nil)))))))
   ·simp at h
  ·simp at h
 | ress =>
  simp only [Ty.dec,dRes] at h
  split at h
  ·split at h
   ·rename_i h1 h2 h3 h4 h5 h6 h7 h8
    simp only [Option.some.injEq] at h
    subst h
    exact .of1 rfl (.of1 rfl (.cons (asL_le hC h1) (.cons (dOE_le hC h2) (.cons (dOE_le hC h3) (.cons (asL_le hC h4) (.of1 rfl (.of1 rfl (.cons (asL_le hC h5) (.cons (asL_le hC h6) (.cons (asL_le hC h7) (.cons (asL_le hC h8) (.of1 rfl (.of1 rfl (.of1 rfl .nil))))))))))))))
   ·simp at h
  ·simp at h
 | askeds =>
  simp only [Ty.dec,dAsked] at h
  split at h
  ·simp only [Option.some.injEq] at h
   subst h
   exact .of1 rfl (.of1 rfl (.of1 rfl (.of1 rfl (.of1 rfl .nil))))
  ·simp at h
 | dpls =>
  simp only [Ty.dec,dDpl] at h
  split at h
  ·rename_i h1
   split at h
   ·rename_i h2
    simp only [Option.some.injEq] at h
    subst h
    exact dEx_all hC h1 (.cons (asL_le hC h2) (.of1 rfl .nil))
   ·simp at h
  ·simp at h
 | ppls =>
  simp only [Ty.dec,dPpl] at h
  split at h
  ·rename_i h1
   split at h
   ·rename_i h2
    simp only [Option.some.injEq] at h
    subst h
    exact dEx_all hC h1 (.of1 rfl (.cons (asL_le hC h2) (.of1 rfl (.of1 rfl .nil))))
   ·simp at h
  ·simp at h
 | bools =>
  simp only [Ty.dec,dBo] at h
  split at h
  ·simp only [Option.some.injEq] at h;subst h;exact .of1 rfl .nil
  ·simp at h
 | ressm=>simp [Ty.dec] at h
 | boolss =>
  simp only [Ty.dec,dBB] at h
  split at h
  ·exact .cons (asL_le hC h) .nil
  ·simp at h
 | strss =>
  simp only [Ty.dec,dSS] at h
  split at h
  ·exact .cons (asL_le hC h) .nil
  ·simp at h
 | intss =>
  simp only [Ty.dec,dNN] at h
  split at h
  ·exact .cons (asL_le hC h) .nil
  ·simp at h
 | things =>
  simp only [Ty.dec,dThing] at h
  split at h
  ·split at h
   ·rename_i h1 h2
    simp only [Option.some.injEq] at h
    subst h
    exact .of1 rfl (.of1 rfl (.of1 rfl (.of1 rfl (.of1 rfl (.of1 rfl (.of1 rfl (.of1 rfl (.of1 rfl (.cons (asL_le hC h1) (.cons (asL_le hC h2) (.of1 rfl (.of1 rfl (.of1 rfl (.nil))))))))))))))
   ·simp at h
  ·simp at h
 | cues =>
  simp only [Ty.dec,dCue] at h
  split at h
  ·split at h
   ·rename_i h1 h2
    simp only [Option.some.injEq] at h
    subst h
    exact .of1 rfl (.of1 rfl (.of1 rfl (.of1 rfl (.cons (asL_le hC h1) (.cons (asL_le hC h2) (.of1 rfl (.of1 rfl (.of1 rfl (.nil)))))))))
   ·simp at h
  ·simp at h
 | binds =>
  simp only [Ty.dec,dBind] at h
  split at h
  ·split at h
   ·rename_i h1 h2
    simp only [Option.some.injEq] at h
    subst h
    exact .of1 rfl (.of1 rfl (.of1 rfl (.of1 rfl (.cons (asL_le hC h1) (.cons (asL_le hC h2) (.of1 rfl (.of1 rfl (.of1 rfl (.nil)))))))))
   ·simp at h
  ·simp at h
 | reqs =>
  simp only [Ty.dec,dReq] at h
  split at h
  ·split at h
   ·rename_i h1 h2 h3 h4
    simp only [Option.some.injEq] at h
    subst h
    exact .of1 rfl (.of1 rfl (.of1 rfl (.of1 rfl (.of1 rfl (.of1 rfl (.of1 rfl (.of1 rfl (.of1 rfl (.of1 rfl (.cons (asL_le hC h1) (.cons (asL_le hC h2) (.of1 rfl (.of1 rfl (.of1 rfl (.of1 rfl (.of1 rfl (.of1 rfl (.cons (asL_le hC h3) (.cons (asL_le hC h4) (.of1 rfl (.of1 rfl (.of1 rfl (.nil)))))))))))))))))))))))
   ·simp at h
  ·simp at h
 | map k v=>simp [Ty.dec] at h
 | acts =>
  simp only [Ty.dec,dAct] at h
  split at h
  ·split at h
   ·rename_i h1 h2 h3 h4 h5
    simp only [Option.some.injEq] at h
    subst h
    exact .of1 rfl (.of1 rfl (.of1 rfl (.of1 rfl (.of1 rfl (.of1 rfl (.of1 rfl
     (.of1 rfl (.of1 rfl (.of1 rfl (.cons (asL_le hC h1) (.cons (asL_le hC h2) (.of1 rfl (.of1 rfl (.of1 rfl
     (.of1 rfl (.of1 rfl (.of1 rfl (.cons (asL_le hC h3) (.cons (asL_le hC h4) (.of1 rfl (.of1 rfl (.of1 rfl (.cons (asL_le hC h5) .nil)))))))))))))))))))))))
   ·simp at h
  ·simp at h
theorem castL_eq {a b:Ty} {l:List b.C} {l':List a.C} (h:castL a b l=some l'):∃e:b=a,l'=e ▸ l:=by
 unfold castL at h
 split at h<;>first | (simp only [Option.some.injEq] at h;subst h;exact ⟨rfl,rfl⟩) | simp at h
theorem KT.eq_iff (k:KT) (a b:k.C):k.eq a b=true↔a=b:=by
 cases k with
 | str=>exact beq_iff_eq (α:=Str)
 | int=>exact beq_iff_eq (α:=Int)
 | two =>
  simp only [KT.eq,Bool.and_eq_true,beq_iff_eq]
  exact ⟨fun h=>Prod.ext h.1 h.2,fun h=>by rw [h];exact ⟨rfl,rfl⟩⟩
 | key =>
  obtain ⟨a1,a2,a3,a4,a5,a6⟩:=a
  obtain ⟨b1,b2,b3,b4,b5,b6⟩:=b
  simp only [KT.eq,Bool.and_eq_true,beq_iff_eq,KeyR.mk.injEq]
 | three =>
  obtain ⟨a1,a2,a3⟩:=a
  obtain ⟨b1,b2,b3⟩:=b
  simp only [KT.eq,Bool.and_eq_true,beq_iff_eq,Prod.mk.injEq]
theorem KT.enc_inj (k:KT) {a b:k.C} (h:k.enc a=k.enc b):a=b:=by
 cases k with
 | str=>simpa [KT.enc] using h
 | int=>simpa [KT.enc,dI] using h
 | two=>simp only [KT.enc,D.agg.injEq,List.cons.injEq,D.str.injEq,and_true] at h;exact Prod.ext h.1 h.2
 | key =>
  obtain ⟨a1,a2,a3,a4,a5,a6⟩:=a
  obtain ⟨b1,b2,b3,b4,b5,b6⟩:=b
  simp only [KT.enc,cK,dI,D.agg.injEq,List.cons.injEq,D.str.injEq,D.int.injEq,true_and,and_true] at h
  simp only [KeyR.mk.injEq]
  exact h
 | three =>
  obtain ⟨a1,a2,a3⟩:=a
  obtain ⟨b1,b2,b3⟩:=b
  simp only [KT.enc,D.agg.injEq,List.cons.injEq,D.str.injEq,and_true] at h
  simp only [Prod.mk.injEq]
  exact h
theorem KT.dec_enc (k:KT) {d:D Pl} {x:k.C} (h:k.dec d=some x):d=k.enc x:=by
 unfold KT.dec at h
 split at h
 ·simp only [Option.some.injEq] at h;subst h;rfl
 ·simp only [Option.some.injEq] at h;subst h;rfl
 ·simp only [Option.some.injEq] at h;subst h;rfl
 ·unfold dKey at h
  split at h
  ·simp only [Option.some.injEq] at h;subst h;rfl
  ·simp at h
 ·simp only [Option.some.injEq] at h;subst h;rfl
 ·simp at h
theorem KT.shp_enc (k:KT) (a b:k.C):shp (k.enc a)=shp (k.enc b):=by cases k<;>rfl
theorem KT.clo (k:KT) (a:k.C):closed (k.enc a)=true:=by cases k<;>rfl
theorem VT.clo (v:VT) (a:v.C):closed (v.enc a)=true:=by cases v<;>rfl
theorem VT.dec_enc {C:Pay Pl} (hC:∀t,C.len ⟨t,[]⟩=0) (v:VT) {d:D Pl} {x:v.C} (h:v.dec d=some x):DleV C d (v.enc x):=by
 unfold VT.dec at h
 split at h
 ·exact .one (.same _)
 ·obtain ⟨h1,h2⟩:=(Ty.dec_enc hC .attrs _ _ h).spec
  exact .agg _ _ h1 h2
 ·obtain ⟨h1,h2⟩:=(Ty.dec_enc hC .vals _ _ h).spec
  exact .agg _ _ h1 h2
 ·simp only [Option.some.injEq] at h;subst h;exact .one (.same _)
 ·simp only [Option.some.injEq] at h;subst h;exact .one (.same _)
 ·simp only [Option.some.injEq] at h;subst h;exact .one (.same _)
 ·obtain ⟨h1,h2⟩:=(Ty.dec_enc hC .types _ _ h).spec
  exact .agg _ _ h1 h2
 ·exact .one (asL_le hC h)
 ·obtain ⟨h1,h2⟩:=(Ty.dec_enc hC .sigs _ _ h).spec
  exact .agg _ _ h1 h2
 ·simp at h
theorem getM_spec {k:KT} {v:VT} (d:k.C×v.C):∀(l:List (k.C×v.C)) (x:k.C),
  (hasM l x=true→∃i,i < l.length∧(l.getD i d).1=x∧(l.getD i d).2=getM l x)∧(hasM l x=false→(∀i,i < l.length→(l.getD i d).1≠x)∧getM l x=v.dflt)
 | [],x=>⟨fun h=>by simp [hasM] at h,fun _=>⟨fun i hi=>by simp at hi,rfl⟩⟩
 | e::r,x=>by
  obtain ⟨h1,h2⟩:=getM_spec d r x
  cases hb:k.eq e.1 x with
  | true =>
   simp only [hasM,getM,hb,cond_true]
   exact ⟨fun _=>⟨0,by simp,by simpa using (KT.eq_iff k _ _).1 hb,by simp⟩,fun h=>by simp at h⟩
  | false =>
   simp only [hasM,getM,hb,cond_false]
   have hne:e.1≠x:=fun h=>by rw [(KT.eq_iff k _ _).2 h] at hb;simp at hb
   refine ⟨fun h=>?_,fun h=>?_⟩
   ·obtain ⟨i,e1,e2,e3⟩:=h1 h
    exact ⟨i+1,by simp;exact e1,by simpa using e2,by simpa using e3⟩
   ·obtain ⟨e1,e2⟩:=h2 h
    refine ⟨fun i hi=>?_,e2⟩
    cases i with
    | zero=>simpa using hne
    | succ i=>simpa using e1 i (by simpa using hi)
theorem putM_spec {k:KT} {v:VT} (d:k.C×v.C):∀(l:List (k.C×v.C)) (x:k.C) (y:v.C),
  (∃i,i < l.length∧(l.getD i d).1=x∧(putM l x y).length=l.length∧(∀j,j < l.length→((putM l x y).getD j d).1=(l.getD j d).1∧(j≠i→(putM l x y).getD j d=l.getD j d))∧((putM l x y).getD i d).2=y) ∨
  ((∀i,i < l.length→(l.getD i d).1≠x)∧putM l x y=l++[(x,y)])
 | [],x,y=>.inr ⟨fun i hi=>by simp at hi,rfl⟩
 | e::r,x,y=>by
  cases hb:k.eq e.1 x with
  | true =>
   have he:=(KT.eq_iff k _ _).1 hb
   simp only [putM,hb,cond_true]
   refine .inl ⟨0,by simp,by simpa using he,by simp,fun j hj=>?_,by simp⟩
   cases j with
   | zero=>exact ⟨by simpa using he.symm,fun h=>absurd rfl h⟩
   | succ j=>simp
  | false =>
   have hne:e.1≠x:=fun h=>by rw [(KT.eq_iff k _ _).2 h] at hb;simp at hb
   simp only [putM,hb,cond_false]
   rcases putM_spec d r x y with ⟨i,h1,h2,h3,h4,h5⟩ | ⟨h1,h2⟩
   ·refine .inl ⟨i+1,by simp;exact h1,by simpa using h2,by simp [h3],fun j hj=>?_,by simpa using h5⟩
    cases j with
    | zero=>simp
    | succ j =>
     have:=h4 j (by simpa using hj)
     exact ⟨by simpa using this.1,fun h=>by simpa using this.2 (fun e=>h (by rw [e]))⟩
   ·refine .inr ⟨fun i hi=>?_,by rw [h2];rfl⟩
    cases i with
    | zero=>simpa using hne
    | succ i=>simpa using h1 i (by simpa using hi)
theorem plC_ok (emp:TypeId→Option Ty) (dr:Bool:=false):PayOk (plC emp dr) where
  pos:=fun p=>by show 0 < p.t.ez;cases p.t<;>simp [Ty.ez]
  bpos:=fun p=>by show 0 < p.t.by';cases p.t<;>simp [Ty.by']
  elen:=fun p i _=>Ty.enc_len _ _
  clo:=fun p i d h=>Ty.enc_clo _ _ d h
  emp:=fun t p h=>by
    simp only [plC] at h
    split at h
    · simp only [Option.some.injEq] at h;subst h;rfl
    · simp at h
  snoc:=fun p cs q h=>by
    simp only [plC] at h
    split at h
    · rename_i x hx
      simp only [Option.some.injEq] at h
      subst h
      obtain ⟨h1,h2⟩:=(Ty.dec_enc (C:=plC emp dr) (fun _=>rfl) _ _ _ hx).spec
      refine ⟨by simp [plC],rfl,rfl,fun i hi=>?_,h1.trans (Ty.enc_len _ _),fun j d d' hd hd'=>h2 j d d' hd ?_⟩
      · simp only [plC] at hi ⊢
        simp [List.getD_eq_getElem?_getD,List.getElem?_append,hi]
      · simpa [plC,List.getD_eq_getElem?_getD] using hd'
    · simp at h
  cat:=fun p q r h=>by
    simp only [plC] at h
    split at h
    · rename_i l hl
      obtain ⟨e,rfl⟩:=castL_eq hl
      simp only [Option.some.injEq] at h
      subst h
      obtain ⟨t,l'⟩:=q
      simp only at e
      subst e
      refine ⟨by simp [plC],rfl,rfl,rfl,fun i hi=>?_,fun i hi=>?_⟩
      · simp only [plC] at hi ⊢
        simp [List.getD_eq_getElem?_getD,List.getElem?_append,hi]
      · simp only [plC] at hi ⊢
        have hn:¬ (p.l.length+i < p.l.length):=by omega
        simp [List.getD_eq_getElem?_getD,List.getElem?_append,hn]
    · simp at h
  cut:=fun p a n h=>by
    simp only [plC] at h ⊢
    refine ⟨by simp;omega,trivial,trivial,fun i hi=>?_⟩
    simp [List.getD_eq_getElem?_getD,hi,List.getElem?_drop]
  set:=fun p i cs q hi h=>by
    simp only [plC] at h hi
    split at h
    · rename_i x hx
      simp only [Option.some.injEq] at h
      subst h
      obtain ⟨h1,h2⟩:=(Ty.dec_enc (C:=plC emp dr) (fun _=>rfl) _ _ _ hx).spec
      refine ⟨by simp [plC],rfl,rfl,fun j hj=>?_,h1.trans (Ty.enc_len _ _),fun j d d' hd hd'=>h2 j d d' hd ?_⟩
      · simp only [plC]
        simp [List.getD_eq_getElem?_getD,Ne.symm hj]
      · simpa [plC,List.getD_eq_getElem?_getD,List.getElem?_set,hi] using hd'
    · simp at h
  bytes:=fun p l h=>by
    simp only [plC] at h
    split at h
    · simp only [Option.some.injEq] at h
      subst h
      refine ⟨rfl,rfl,fun i hi=>?_⟩
      simp only [plC]
      simp [List.getD_eq_getElem?_getD,hi,Ty.enc]
    · simp at h
  ofBytes:=fun t l p h=>by
    simp only [plC,Option.some.injEq] at h
    subst h
    exact ⟨rfl,rfl⟩
  rep:=fun t n p h=>by
    simp only [plC] at h
    split at h
    · simp only [Option.some.injEq] at h
      subst h
      refine ⟨List.length_replicate,rfl,.inl ⟨rfl,fun i hi=>?_⟩⟩
      simp only [plC]
      rw [List.getD_eq_getElem?_getD,List.getElem?_replicate,if_pos hi]
      rfl
    · simp only [Option.some.injEq] at h
      subst h
      refine ⟨List.length_replicate,rfl,.inr ⟨rfl,fun i hi=>?_⟩⟩
      simp only [plC]
      rw [List.getD_eq_getElem?_getD,List.getElem?_replicate,if_pos hi]
      rfl
    · simp at h
  alcut:=fun _ _ _=>rfl
  alcat:=fun _ _ _ _=>rfl
  albytes:=fun _ _ _=>rfl
  memp:=fun t p h=>by
    simp only [plC] at h
    split at h
    · simp only [Option.some.injEq] at h;subst h;rfl
    · simp at h
  mkclo:=fun p i _=>by
    simp only [plC]
    split
    · exact KT.clo _ _
    · rfl
  mvclo:=fun p i _=>by
    simp only [plC]
    split
    · exact VT.clo _ _
    · rfl
  mget := fun p d e b h => by
    simp only [plC,mgetP] at h
    split at h
    · rename_i k v l
      split at h
      · rename_i x hx
        have hd:=KT.dec_enc k hx
        simp only [Option.some.injEq,Prod.mk.injEq] at h
        obtain ⟨rfl,rfl⟩:=h
        obtain ⟨h1,h2⟩:=getM_spec (k.dflt,v.dflt) l x
        refine ⟨fun i _=>by rw [hd];exact KT.shp_enc k _ _,VT.clo _ _,fun hb=>?_,fun hb=>?_⟩
        · obtain ⟨i,e1,e2,e3⟩:=h1 hb
          exact ⟨i,e1,by rw [hd,←e2];rfl,by rw [←e3];rfl⟩
        · obtain ⟨e1,e2⟩:=h2 hb
          refine ⟨fun i hi he=>e1 i hi (KT.enc_inj k ?_),by rw [e2];rfl⟩
          rw [hd] at he
          exact he
      · simp at h
    · simp at h
  mput := fun p d e q h => by
    simp only [plC,mputP] at h
    split at h
    · rename_i k v l
      split at h
      · rename_i x y hx hy
        have hd:=KT.dec_enc k hx
        have hv:=VT.dec_enc (C:=plC emp dr) (fun _=>rfl) v hy
        simp only [Option.some.injEq] at h
        subst h
        refine ⟨fun i _=>by rw [hd];exact KT.shp_enc k _ _,by rw [hd];exact KT.clo k x,?_⟩
        rcases putM_spec (k.dflt,v.dflt) l x y with ⟨i,h1,h2,h3,h4,h5⟩ | ⟨h1,h2⟩
        · refine .inl ⟨i,h1,by rw [hd,←h2];rfl,h3,fun j hj=>?_,?_⟩
          · obtain ⟨g1,g2⟩:=h4 j hj
            exact ⟨congrArg k.enc g1,fun hne=>congrArg (fun z:k.C×v.C=>v.enc z.2) (g2 hne)⟩
          · have:(plC emp dr).mval ⟨.map k v,putM l x y⟩ i=v.enc y:=congrArg v.enc h5
            exact this ▸ hv
        · have hx2:(l++[(x,y)]).getD l.length (k.dflt,v.dflt)=(x,y):=by simp
          rw [h2]
          refine .inr ⟨fun i hi he=>h1 i hi (KT.enc_inj k ?_),by simp [plC],fun j hj=>?_,?_,?_⟩
          · rw [hd] at he
            exact he
          · have hj:j < l.length:=hj
            have:(l++[(x,y)]).getD j (k.dflt,v.dflt)=l.getD j (k.dflt,v.dflt):=by simp [List.getD_eq_getElem?_getD,List.getElem?_append,hj]
            exact ⟨congrArg (fun z:k.C×v.C=>k.enc z.1) this,congrArg (fun z:k.C×v.C=>v.enc z.2) this⟩
          · rw [hd];exact congrArg (fun z:k.C×v.C=>k.enc z.1) hx2
          · have:(plC emp dr).mval ⟨.map k v,l++[(x,y)]⟩ l.length=v.enc y:=congrArg (fun z:k.C×v.C=>v.enc z.2) hx2
            exact this ▸ hv
      · simp at h
    · simp at h
end Go.Eng
