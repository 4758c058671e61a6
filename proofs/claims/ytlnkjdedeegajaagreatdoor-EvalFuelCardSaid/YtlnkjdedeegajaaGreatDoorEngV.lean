/-
  THE ENGINE, PART V: CALLS ARE EVALUATED, TOO: to any depth; what is told of a function goes ahead of its body.
-/
import Derived.Test.YtlnkjdedeegajaaGreatDoorEngU
namespace Go.Eng
open Go.RowKit
variable {α:Type}
def PathK {α γ:Type} (RK:CK α γ):Prop:=∀f ds k c,RK f ds k=some c→∃d,∀k',RK f ds k'=k' d
section
variable {X:Ctx α} {γ:Type} {RK:CK α γ}
theorem runL_path (hP:PathK RK) (ops:Array Oper) (k:List (D α)→Obs α→List Nat→List (List (D α)×Obs α)→Option γ) (c:γ):∀(rest:List Oper) (i:Nat) (tm:List (D α)) (hs:Obs α) (ws:List Nat) (lg:List (List (D α)×Obs α)),
    runL X RK ops i rest tm hs ws lg k=some c→∃tmN hsN wsN lgN,∀k',runL X RK ops i rest tm hs ws lg k'=k' tmN hsN wsN lgN
  | [],i,tm,hs,ws,lg,h=>⟨tm,hs,ws,lg,fun k'=>rfl⟩
  | o::rest,i,tm,hs,ws,lg,h=>by
    simp only [runL] at h ⊢
    split at h
    · simp at h
    · rename_i q hq
      cases hcl:isCall o with
      | true =>
        simp only [hcl,cond_true] at h ⊢
        cases hq2:q.2 with
        | false =>
          rw [hq2] at h
          simp only [br,cond_false] at h ⊢
          exact runL_path hP ops k c rest _ _ _ _ _ h
        | true =>
          rw [hq2] at h
          simp only [br,cond_true] at h ⊢
          split at h
          · split at h
            · simp at h
            · rename_i f tops nests H ds ns hco
              obtain ⟨e,hd⟩:=hP _ _ _ _ h
              rw [hd] at h
              simp only [hd]
              split at h
              · split at h
                · exact runL_path hP ops k c rest _ _ _ _ _ h
                · simp at h
              · simp at h
          · rename_i f ds ns hco
            obtain ⟨d,hd⟩:=hP _ _ _ _ h
            rw [hd] at h
            simp only [hd]
            obtain ⟨h1,h2⟩:=chk_eq h
            simp only [h1,chk,cond_true]
            cases hbd:bindD hs o.dst d with
            | some x =>
              obtain ⟨m,p,e⟩:=x
              rw [hbd] at h2
              exact runL_path hP ops k c rest _ _ _ _ _ h2
            | none =>
            rw [hbd] at h2
            simp only at h2 ⊢
            cases hb:isNil ns||flat d with
            | true=>rw [hb] at h2;exact runL_path hP ops k c rest _ _ _ _ _ h2
            | false=>rw [hb] at h2;exact runL_path hP ops k c rest _ _ _ _ _ h2
      | false =>
        simp only [hcl,cond_false] at h ⊢
        split at h
        · rename_i hc
          obtain ⟨h1,h2⟩:=chk_eq h
          simp only [h1,chk,cond_true]
          exact runL_path hP ops k c rest _ _ _ _ _ h2
        · rename_i tm' hs' hc hgn
          obtain ⟨h1,h2⟩:=chk_eq h
          simp only [h1,chk,cond_true]
          exact runL_path hP ops k c rest _ _ _ _ _ h2
        · rename_i tm' hs' gd hc hgn
          cases hq2:q.2 with
          | true =>
            rw [hq2] at h
            obtain ⟨h1,h2⟩:=chk_eq (show chk _ _=some c from h)
            simp only [h1,chk,br,cond_true]
            exact runL_path hP ops k c rest _ _ _ _ _ h2
          | false =>
            rw [hq2] at h
            simp only [br,cond_false]
            exact runL_path hP ops k c rest _ _ _ _ _ (show runL _ _ _ _ _ _ _ _ _ _=some c from h)
theorem exec_path (hP:PathK RK) (L:LK α) (c:γ):∀(code:Code) (S:St α) (k:Ex→St α→Option γ),exec X RK L code S k=some c→∃e S',∀k',exec X RK L code S k'=k' e S'
  | .skip,S,k,h=>⟨.normal,S,fun k'=>rfl⟩
  | .region id ops draw,S,k,h=>by
    simp only [exec] at h ⊢
    obtain ⟨h1,h2⟩:=chk_eq h
    obtain ⟨tmN,hsN,wsN,lgN,hp⟩:=runL_path hP ops _ c _ _ _ _ _ _ h2
    rw [hp] at h2
    obtain ⟨h3,h4⟩:=chk_eq h2
    simp only [h1,hp,h3,chk,cond_true]
    exact ⟨_,_,fun k'=>rfl⟩
  | .seq x y,S,k,h=>by
    simp only [exec] at h ⊢
    obtain ⟨e,S1,hp⟩:=exec_path hP L c x S _ h
    rw [hp] at h
    simp only [hp]
    cases e with
    | normal=>exact exec_path hP L c y S1 k h
    | exit id=>exact ⟨_,_,fun k'=>rfl⟩
    | ret=>exact ⟨_,_,fun k'=>rfl⟩
  | .cond x t f,S,k,h=>by
    simp only [exec] at h ⊢
    split at h
    · rename_i b hb
      cases b with
      | true=>exact exec_path hP L c t S k h
      | false=>exact exec_path hP L c f S k h
    · simp at h
  | .block id body,S,k,h=>by
    simp only [exec] at h ⊢
    obtain ⟨e,S1,hp⟩:=exec_path hP L c body S _ h
    simp only [hp]
    cases e with
    | normal=>exact ⟨_,_,fun k'=>rfl⟩
    | exit id' =>
      cases hb:Nat.beq id' id with
      | true=>exact ⟨_,_,fun k'=>by simp only [hb];rfl⟩
      | false=>exact ⟨_,_,fun k'=>by simp only [hb];rfl⟩
    | ret=>exact ⟨_,_,fun k'=>rfl⟩
  | .loop body,S,k,h=>by
    simp only [exec] at h ⊢
    cases hl:L (firstId body) S with
    | some r =>
      obtain ⟨b,r⟩:=r
      rw [hl] at h
      obtain ⟨h1,_⟩:=chk_eq h
      exact ⟨(pickR r).1,(pickR r).2,fun k'=>by simp only [h1,chk,cond_true,runR_eq]⟩
    | none =>
    rw [hl] at h
    simp only at h ⊢
    clear hl
    generalize X.N=n at h ⊢
    induction n generalizing S with
    | zero=>simp [loopD] at h
    | succ n ih =>
      simp only [loopD] at h ⊢
      obtain ⟨e,S1,hp⟩:=exec_path hP L c body S _ h
      rw [hp] at h
      simp only [hp]
      cases e with
      | normal=>exact ih S1 h
      | exit id=>exact ⟨_,_,fun k'=>rfl⟩
      | ret=>exact ⟨_,_,fun k'=>rfl⟩
  | .exit id,S,k,h=>⟨_,_,fun k'=>rfl⟩
  | .ret,S,k,h=>⟨_,_,fun k'=>rfl⟩
  | .rangeFunc ..,S,k,h=>by simp [exec] at h
  | .scope ..,S,k,h=>by simp [exec] at h
  | .label ..,S,k,h=>by simp [exec] at h
  | .goto ..,S,k,h=>by simp [exec] at h
  | .refuse ..,S,k,h=>by simp [exec] at h
theorem fnK_path (hP:PathK RK) {L:LK α} {fn:Func} {ds:List (D α)} {k:D α→Option γ} {c:γ} (h:fnK X RK L fn ds k=some c):∃d,∀k',fnK X RK L fn ds k'=k' d:=by
  unfold fnK at h ⊢
  split at h
  · obtain ⟨e,S',hp⟩:=exec_path hP L c _ _ _ h
    rw [hp] at h
    simp only [hp]
    cases e with
    | exit id=>simp at h
    | normal =>
      simp only at h ⊢
      cases hd:finD X fn S' with
      | none=>rw [hd] at h;simp at h
      | some d=>exact ⟨d,fun k'=>rfl⟩
    | ret =>
      simp only at h ⊢
      cases hd:finD X fn S' with
      | none=>rw [hd] at h;simp at h
      | some d=>exact ⟨d,fun k'=>rfl⟩
  · simp at h
theorem fnM_path (hP:PathK RK) {L:LK α} {fn:Func} {H:Obs α} {ds:List (D α)} {k:D α→Option γ} {c:γ} (h:fnM X RK L fn H ds k=some c):∃d,∀k',fnM X RK L fn H ds k'=k' d:=by
  unfold fnM at h ⊢
  split at h
  · obtain ⟨e,S',hp⟩:=exec_path hP L c _ _ _ h
    rw [hp] at h
    simp only [hp]
    cases e with
    | exit id=>simp at h
    | normal =>
      simp only at h ⊢
      cases hd:finM X fn H S' with
      | none=>rw [hd] at h;simp at h
      | some d=>exact ⟨d,fun k'=>rfl⟩
    | ret =>
      simp only at h ⊢
      cases hd:finM X fn H S' with
      | none=>rw [hd] at h;simp at h
      | some d=>exact ⟨d,fun k'=>rfl⟩
  · simp at h
abbrev Told (α:Type):=FuncId→List (D α)→Option (Bool×D α)
abbrev LoopsT (α:Type):=FuncId→LK α
def callK (X:Ctx α) (F:FuncId→Option Func) (R0:Told α) (TL:LoopsT α):Nat→CK α γ
  | 0,f,ds,k=>match R0 f ds with
    | some (b,d)=>chk b (k d)
    | none=>none
  | n+1,f,ds,k=>match R0 f ds with
    | some (b,d)=>chk b (k d)
    | none=>bif Nat.blt f 1000000 then (match F f with
      | some fn=>fnK X (callK X F R0 TL n) (TL f) fn ds k
      | none=>none) else match F (f - 1000000),ds with
      | some fn,.env os _::args=>fnM X (callK X F R0 TL n) (TL (f - 1000000)) fn (decH os) args k
      | _,_=>none
theorem callK_path (X:Ctx α) (F:FuncId→Option Func) (R0:Told α) (TL:LoopsT α):∀n,PathK (callK (γ:=γ) X F R0 TL n)
  | 0=>by
    intro f ds k c h
    simp only [callK] at h ⊢
    split at h
    · rename_i b d hr
      obtain ⟨h1,_⟩:=chk_eq h
      exact ⟨d,fun k'=>by simp only [h1,chk,cond_true]⟩
    · simp at h
  | n+1=>by
    intro f ds k c h
    simp only [callK] at h ⊢
    split at h
    · rename_i b d hr
      obtain ⟨h1,_⟩:=chk_eq h
      exact ⟨d,fun k'=>by simp only [h1,chk,cond_true]⟩
    · cases hb:Nat.blt f 1000000 with
      | true =>
        rw [hb] at h
        simp only [cond_true] at h ⊢
        split at h
        · exact fnK_path (callK_path X F R0 TL n) h
        · simp at h
      | false =>
        rw [hb] at h
        simp only [cond_false] at h ⊢
        split at h
        · exact fnM_path (callK_path X F R0 TL n) h
        · simp at h
def FOk (P:Program) (F:FuncId→Option Func):Prop:=∀f fn,F f=some fn→P.funcs[f]?=some fn∧(fn.name=="runtime.NumGoroutine")=false
def TLOk (X:Ctx α) (F:FuncId→Option Func) (TL:LoopsT α):Prop:=∀f fn code,F f=some fn→fn.body=some code→∀b∈loopsOf code,LoopOk X (TL f) b
def ToldOk (X:Ctx α) (R0:Told α):Prop:=∀f ds b d,R0 f ds=some (b,d)→b=true→SoundG X.P X.C X.glob f ds d
def Fits (X:Ctx α) (F:FuncId→Option Func) (R0:Told α) (TL:LoopsT α) (γ:Type) (n:Nat) (f:FuncId) (ds:List (D α)) (d:D α):Prop :=
  ∀k:D α→Option γ,callK X F R0 TL n f ds k=k d
open Classical in
noncomputable def semR (X:Ctx α) (F:FuncId→Option Func) (R0:Told α) (TL:LoopsT α) (γ:Type) (n:Nat):FuncId→List (D α)→Option (Bool×D α):=fun f ds =>
  if h:∃d,Fits X F R0 TL γ n f ds d then some (true,h.choose) else none
def Ctx.withR (X:Ctx α) (R:FuncId→List (D α)→Option (Bool×D α)):Ctx α:={ X with R:=R }
theorem xok_withR (hX:XOk X) (R:FuncId→List (D α)→Option (Bool×D α)):XOk (X.withR R):=⟨hX.pay,hX.plain,hX.mixed⟩
variable (R:FuncId→List (D α)→Option (Bool×D α)) {L:LK α}
theorem sim_withR {g:Gh} {tm:List (D α)} {hs:Obs α} {a:Act} {w:World}:Sim (X.withR R) g tm hs a w↔Sim X g tm hs a w :=
  ⟨fun h=>⟨h.size,h.tm,h.dfr,h.obs,h.inj,h.own,h.below,h.av0,h.lav,h.top,h.glob⟩,fun h=>⟨h.size,h.tm,h.dfr,h.obs,h.inj,h.own,h.below,h.av0,h.lav,h.top,h.glob⟩⟩
theorem goes_withR {code:Code} {S S':St α} {e:Ex}:Goes (X.withR R) code S e S'↔Goes X code S e S' :=
  ⟨fun h g a w hS hK Q hQ=>h g a w ((sim_withR R).2 hS) hK Q fun rho' a' w' hS' hK'=>hQ rho' a' w' ((sim_withR R).1 hS') hK',
   fun h g a w hS hK Q hQ=>h g a w ((sim_withR R).1 hS) hK Q fun rho' a' w' hS' hK'=>hQ rho' a' w' ((sim_withR R).2 hS') hK'⟩
theorem loopOk_withR {body:Code} (h:LoopOk X L body):LoopOk (X.withR R) L body:=fun S b r h1 h2=>(goes_withR R).2 (h S b r h1 h2)
theorem evK_withR (tm:List (D α)) (ks:List (Nat×Bool)) (x:Operand):evK (X.withR R) tm ks x=evK X tm ks x:=by cases x<;>rfl
theorem evalOp_withR (tm:List (D α)) (hs:Obs α) (ks:List (Nat×Bool)) (o:Oper) (h:isCall o=false):evalOp (X.withR R) tm hs ks o=evalOp X tm hs ks o:=by
  have he:evK (X.withR R)=evK X:=by funext tm ks x;exact evK_withR R tm ks x
  obtain ⟨dst,op,type,pos,after,guard⟩:=o
  cases op
  case call c =>
    obtain ⟨callee,args,argTypes⟩:=c
    cases callee with
    | value f=>simp [isCall] at h
    | invoke r m=>simp only [evalOp]
    | builtin b=>cases b<;>first | (simp only [evalOp,he];done) | (simp only [evalOp,he];rfl)
  case makeFunc fn first cap=>cases fn<;>first | (simp only [evalOp,he];done) | (simp only [evalOp,he];rfl)
  case makeMap t r=>cases r<;>first | (simp only [evalOp];done) | (simp only [evalOp];rfl)
  all_goals first | (simp only [evalOp,he];done) | (simp only [evalOp,he];rfl)
theorem callOf_withR (tm:List (D α)) (hs:Obs α) (ks:List (Nat×Bool)) (o:Oper):callOf (X.withR R) tm hs ks o=callOf X tm hs ks o:=by
  have he:evK (X.withR R)=evK X:=by funext tm ks x;exact evK_withR R tm ks x
  unfold callOf
  simp only [he]
  rfl
theorem runL_withR (ops:Array Oper) (k:List (D α)→Obs α→List Nat→List (List (D α)×Obs α)→Option γ):∀(rest:List Oper) (i:Nat) (tm:List (D α)) (hs:Obs α) (ws:List Nat) (lg:List (List (D α)×Obs α)),
    runL (X.withR R) RK ops i rest tm hs ws lg k=runL X RK ops i rest tm hs ws lg k
  | [],i,tm,hs,ws,lg=>rfl
  | o::rest,i,tm,hs,ws,lg=>by
    have ih:=runL_withR ops k rest
    simp only [runL,ih,callOf_withR]
    split
    · rfl
    · cases hcl:isCall o with
      | true=>rfl
      | false=>simp only [cond_false,evalOp_withR R _ _ _ _ hcl]
theorem closedCall_withR (tm:List (D α)) (o:Oper):closedCall (X.withR R) tm o=closedCall X tm o:=by
  have he:evK (X.withR R)=evK X:=by funext tm ks x;exact evK_withR R tm ks x
  unfold closedCall
  simp only [he]
  rfl
theorem runC_withR (F:List Nat):∀(l:List (Oper×(List (D α)×Obs α)×(List (D α)×Obs α))),runC (X.withR R) F l=runC X F l
  | []=>rfl
  | (o,s,s')::r=>by
    have he:evK (X.withR R)=evK X:=by funext tm ks x;exact evK_withR R tm ks x
    have h3:∀tm,touchC (X.withR R) tm o=touchC X tm o:=by
      intro tm
      unfold touchC
      simp only [he]
    cases hc:isCall o with
    | true=>simp only [runC,hc,cond_true,closedCall_withR,h3,runC_withR F r]
    | false =>
      have h1:∀tm hs,evalOp (X.withR R) tm hs [] o=evalOp X tm hs [] o:=fun tm hs=>evalOp_withR R tm hs [] o hc
      have h2:okC0 (X.withR R) F s.1 s.2 o=okC0 X F s.1 s.2 o:=by
        unfold okC0
        simp only [h1,he]
        rfl
      simp only [runC,hc,cond_false,h2,h3,runC_withR F r]
theorem drawC_withR (ops:Array Oper) (lg:List (List (D α)×Obs α)) (tm:List (D α)) (hs:Obs α):drawC (X.withR R) ops lg tm hs=drawC X ops lg tm hs:=by
  unfold drawC
  simp only [runC_withR]
theorem callOfM_withR (tm:List (D α)) (hs:Obs α) (ks:List (Nat×Bool)) (o:Oper):callOfM (X.withR R) tm hs ks o=callOfM X tm hs ks o:=by
  have he:evK (X.withR R)=evK X:=by funext tm ks x;exact evK_withR R tm ks x
  unfold callOfM
  simp only [he]
  rfl
theorem writesW_withR (tm:List (D α)) (hs hs1:Obs α) (o:Oper):writesW (X.withR R) tm hs hs1 o=writesW X tm hs hs1 o:=by
  unfold writesW
  cases hc:isCall o with
  | true=>simp only [cond_true,callW,callOfM_withR,callOf_withR]
  | false =>
    have he:evK (X.withR R)=evK X:=by funext tm ks x;exact evK_withR R tm ks x
    simp only [cond_false]
    unfold writesOf
    simp only [evalOp_withR R tm hs [] o hc,he]
    rfl
theorem runW_withR:∀(l:List (Oper×(List (D α)×Obs α)×(List (D α)×Obs α))),runW (X.withR R) l=runW X l
  | []=>rfl
  | (o,s,s')::r=>by simp only [runW,writesW_withR,runW_withR r]
theorem hoist_call {ops:Array Oper} {K sl:List Nat} {yet:Nat→Bool} {tm0:List (D α)} {hs0:Obs α} {hsl:List Nat} {tm:List (D α)} {hs:Obs α} {o:Oper} (h:isCall o=true):hoistOk X ops K yet sl tm0 hs0 hsl tm hs o=false:=by
  obtain ⟨dst,op,type,pos,after,guard⟩:=o
  cases op<;>simp only [isCall] at h<;>try (simp at h;done)
  simp [hoistOk,pureOp,strSl,freshOp,readsOld]
theorem walkW_withR (ops:Array Oper) (K:List Nat) (yet:Nat→Nat→Bool) (sl:List Nat) (tm0:List (D α)) (hs0:Obs α):∀(l:List (Oper×(List (D α)×Obs α)×(List (D α)×Obs α))) (i:Nat) (hsl:List Nat),walkW (X.withR R) ops K yet sl tm0 hs0 i hsl l=walkW X ops K yet sl tm0 hs0 i hsl l
  | [],_,_=>rfl
  | (o,s,s')::r,i,hsl=>by
    have h2:∀i hsl,hoistOk (X.withR R) ops K (yet i) sl tm0 hs0 hsl s.1 s.2 o=hoistOk X ops K (yet i) sl tm0 hs0 hsl s.1 s.2 o:=by
      intro i hsl
      cases hc:isCall o with
      | true=>rw [hoist_call hc,hoist_call hc]
      | false =>
        have he:evK (X.withR R)=evK X:=by funext tm ks x;exact evK_withR R tm ks x
        unfold hoistOk readsOld
        simp only [evalOp_withR R _ _ [] o hc,he]
        rfl
    simp only [walkW,h2,walkW_withR ops K yet sl tm0 hs0 r]
theorem drawW_withR (ops:Array Oper) (ws:List Nat) (lg:List (List (D α)×Obs α)) (tm:List (D α)) (hs:Obs α):drawW (X.withR R) ops ws lg tm hs=drawW X ops ws lg tm hs:=by
  unfold drawW
  simp only [runW_withR,walkW_withR]
theorem exec_withR:∀(code:Code) (S:St α) (k:Ex→St α→Option γ),exec (X.withR R) RK L code S k=exec X RK L code S k
  | .skip,S,k=>rfl
  | .region id ops draw,S,k=>by simp only [exec,runL_withR,drawC_withR,drawW_withR];rfl
  | .seq x y,S,k=>by
    simp only [exec,exec_withR x]
    congr 1
    funext e S'
    cases e with
    | normal=>exact exec_withR y S' k
    | _=>rfl
  | .cond x t f,S,k=>by simp only [exec,exec_withR t,exec_withR f,evK_withR]
  | .block id body,S,k=>by simp only [exec,exec_withR body]
  | .loop body,S,k=>by
    have:(fun (S:St α) (k:Ex→St α→Option γ)=>exec (X.withR R) RK L body S k)=fun S k=>exec X RK L body S k:=by
      funext S k;exact exec_withR body S k
    simp only [exec,this]
    cases L (firstId body) S<;>rfl
  | .exit id,S,k=>rfl
  | .ret,S,k=>rfl
  | .rangeFunc ..,S,k=>rfl
  | .scope ..,S,k=>rfl
  | .label ..,S,k=>rfl
  | .goto ..,S,k=>rfl
  | .refuse ..,S,k=>rfl
theorem fnK_withR (fn:Func) (ds:List (D α)) (k:D α→Option γ):fnK (X.withR R) RK L fn ds k=fnK X RK L fn ds k:=by
  have h1:∀l:List ResultVar,∀S:St α,resultsOf (X.withR R) S l=resultsOf X S l:=by
    intro l S
    induction l with
    | nil=>rfl
    | cons r l ih=>simp only [resultsOf,ih];cases r<;>rfl
  have h2:∀S:St α,finD (X.withR R) fn S=finD X fn S:=by
    intro S;simp only [finD,h1];rfl
  simp only [fnK,exec_withR,h2]
theorem fnM_withR (fn:Func) (H:Obs α) (ds:List (D α)) (k:D α→Option γ):fnM (X.withR R) RK L fn H ds k=fnM X RK L fn H ds k:=by
  have h1:∀l:List ResultVar,∀S:St α,resultsOf (X.withR R) S l=resultsOf X S l:=by
    intro l S
    induction l with
    | nil=>rfl
    | cons r l ih=>simp only [resultsOf,ih];cases r<;>rfl
  have h2:∀S:St α,finM (X.withR R) fn H S=finM X fn H S:=by
    intro S;simp only [finM,h1];rfl
  simp only [fnM,exec_withR,h2]
theorem Fits.uniq [Inhabited γ] {F:FuncId→Option Func} {R0:Told α} {TL:LoopsT α} {n:Nat} {f:FuncId} {ds:List (D α)} {d d':D α} (h:Fits X F R0 TL γ n f ds d) (h':Fits X F R0 TL γ n f ds d'):d=d':=by
  classical
  have:=(h fun e=>if e=d then some default else none).symm.trans (h' _)
  simp only [if_true] at this
  split at this
  · rename_i he;exact he.symm
  · simp at this
theorem ckOk [Inhabited γ] (X:Ctx α) (F:FuncId→Option Func) (R0:Told α) (TL:LoopsT α) (n:Nat):CKOk (X.withR (semR X F R0 TL γ n)) (callK (γ:=γ) X F R0 TL n):=by
  intro f ds k c h
  obtain ⟨d,hd⟩:=callK_path X F R0 TL n f ds k c h
  have hex:∃d,Fits X F R0 TL γ n f ds d:=⟨d,hd⟩
  have:hex.choose=d:=Fits.uniq hex.choose_spec hd
  refine ⟨d,?_,by rw [←hd k];exact h⟩
  show semR X F R0 TL γ n f ds=_
  unfold semR
  rw [dif_pos hex,this]
theorem semOk [Inhabited γ] (hX:XOk X) {F:FuncId→Option Func} (hF:FOk X.P F) {R0:Told α} (h0:ToldOk X R0) {TL:LoopsT α} (hTL:TLOk X F TL):∀(n:Nat) f ds d,Fits X F R0 TL γ n f ds d→SoundG X.P X.C X.glob f ds d:=by
  classical
  intro n
  induction n with
  | zero =>
    intro f ds d h
    have hk:=h fun e=>if e=d then some default else none
    simp only [if_true,callK] at hk
    split at hk
    · rename_i b e hr
      obtain ⟨h1,h2⟩:=chk_eq hk
      split at h2
      · rename_i he;subst he;exact h0 _ _ _ _ hr h1
      · simp at h2
    · simp at hk
  | succ n ih =>
    intro f ds d h
    have hk:=h fun e=>if e=d then some default else none
    simp only [if_true,callK] at hk
    split at hk
    · rename_i b e hr
      obtain ⟨h1,h2⟩:=chk_eq hk
      split at h2
      · rename_i he;subst he;exact h0 _ _ _ _ hr h1
      · simp at h2
    · cases hb:Nat.blt f 1000000 with
      | false =>
        rw [hb] at hk
        simp only [cond_false] at hk
        split at hk
        · rename_i fn os e ds' hfn _
          obtain ⟨h1,h2⟩:=hF _ _ hfn
          have hR:ROk (X.withR (semR X F R0 TL γ n)):=by
            intro f' ds' b' d' hr hb
            have hr:semR X F R0 TL γ n f' ds'=some (b',d'):=hr
            unfold semR at hr
            split at hr
            · rename_i hex
              simp only [Option.some.injEq,Prod.mk.injEq] at hr
              rw [←hr.2]
              exact ih _ _ _ hex.choose_spec
            · simp at hr
          rw [←fnM_withR (semR X F R0 TL γ n)] at hk
          obtain ⟨os',d',he,hs⟩:=fnM_sound (xok_withR hX _) hR (ckOk X F R0 TL n) h1 h2 (fun code hc b hb=>loopOk_withR _ (hTL _ fn code hfn hc b hb)) hk
          split at he
          · rename_i hed
            refine ⟨fun h=>by rw [hb] at h;simp at h,fun _ os1 e1 ds1 os2 d2 hq hq2=>?_⟩
            simp only [List.cons.injEq,D.env.injEq] at hq
            obtain ⟨⟨rfl,rfl⟩,rfl⟩:=hq
            rw [←hed] at hq2
            simp only [D.env.injEq] at hq2
            obtain ⟨rfl,rfl⟩:=hq2
            exact hs
          · simp at he
        · simp at hk
      | true =>
      rw [hb] at hk
      simp only [cond_true] at hk
      split at hk
      · rename_i fn hfn
        obtain ⟨h1,h2⟩:=hF _ _ hfn
        have hR:ROk (X.withR (semR X F R0 TL γ n)):=by
          intro f' ds' b' d' hr hb
          have hr:semR X F R0 TL γ n f' ds'=some (b',d'):=hr
          unfold semR at hr
          split at hr
          · rename_i hex
            simp only [Option.some.injEq,Prod.mk.injEq] at hr
            rw [←hr.2]
            exact ih _ _ _ hex.choose_spec
          · simp at hr
        rw [←fnK_withR (semR X F R0 TL γ n)] at hk
        obtain ⟨e,he,hs⟩:=fnK_sound (xok_withR hX _) hR (ckOk X F R0 TL n) h1 h2 (fun code hc b hb=>loopOk_withR _ (hTL f fn code hfn hc b hb)) hk
        split at he
        · rename_i hed;subst hed;exact ⟨fun _=>hs,fun h=>by rw [hb] at h;simp at h⟩
        · simp at he
      · simp at hk
theorem callK_sound [Inhabited γ] (hX:XOk X) {F:FuncId→Option Func} (hF:FOk X.P F) {R0:Told α} (h0:ToldOk X R0) {TL:LoopsT α} (hTL:TLOk X F TL) {n:Nat} {f:FuncId} {ds:List (D α)} {k:D α→Option γ} {c:γ}
    (h:callK X F R0 TL n f ds k=some c):∃d,k d=some c∧SoundG X.P X.C X.glob f ds d:=by
  obtain ⟨d,hd⟩:=callK_path X F R0 TL n f ds k c h
  exact ⟨d,by rw [←hd k];exact h,semOk hX hF h0 hTL n f ds d hd⟩
theorem bodyM_sound [Inhabited γ] (hX:XOk X) {F:FuncId→Option Func} (hF:FOk X.P F) {R0:Told α} (h0:ToldOk X R0) {TL:LoopsT α} (hTL:TLOk X F TL) {n:Nat} {f:FuncId} {fn:Func} {H:Obs α} {ds:List (D α)} {k:D α→Option γ} {c:γ}
    (hf:F f=some fn) (hL:∀code,fn.body=some code→∀b∈loopsOf code,LoopOk X L b) (h:fnM X (callK X F R0 TL n) L fn H ds k=some c):∃os' d',k (.env os' d')=some c∧SoundM X.P X.C X.glob f H ds d' (decH os'):=by
  have hR:ROk (X.withR (semR X F R0 TL γ n)):=by
    intro f' ds' b' d' hr hb
    have hr:semR X F R0 TL γ n f' ds'=some (b',d'):=hr
    unfold semR at hr
    split at hr
    · rename_i hex
      simp only [Option.some.injEq,Prod.mk.injEq] at hr
      rw [←hr.2]
      exact semOk hX hF h0 hTL n _ _ _ hex.choose_spec
    · simp at hr
  rw [←fnM_withR (semR X F R0 TL γ n)] at h
  exact fnM_sound (xok_withR hX _) hR (ckOk X F R0 TL n) (hF _ _ hf).1 (hF _ _ hf).2 (fun code hc b hb=>loopOk_withR _ (hL code hc b hb)) h
theorem bodyK_sound [Inhabited γ] (hX:XOk X) {F:FuncId→Option Func} (hF:FOk X.P F) {R0:Told α} (h0:ToldOk X R0) {TL:LoopsT α} (hTL:TLOk X F TL) {n:Nat} {f:FuncId} {fn:Func} {ds:List (D α)} {k:D α→Option γ} {c:γ}
    (hf:F f=some fn) (hL:∀code,fn.body=some code→∀b∈loopsOf code,LoopOk X L b) (h:fnK X (callK X F R0 TL n) L fn ds k=some c):∃d,k d=some c∧SoundAt X.P X.C X.glob f ds d:=by
  have hR:ROk (X.withR (semR X F R0 TL γ n)):=by
    intro f' ds' b' d' hr hb
    have hr:semR X F R0 TL γ n f' ds'=some (b',d'):=hr
    unfold semR at hr
    split at hr
    · rename_i hex
      simp only [Option.some.injEq,Prod.mk.injEq] at hr
      rw [←hr.2]
      exact semOk hX hF h0 hTL n _ _ _ hex.choose_spec
    · simp at hr
  rw [←fnK_withR (semR X F R0 TL γ n)] at h
  exact fnK_sound (xok_withR hX _) hR (ckOk X F R0 TL n) (hF _ _ hf).1 (hF _ _ hf).2 (fun code hc b hb=>loopOk_withR _ (hL code hc b hb)) h
theorem body_goes [Inhabited γ] (hX:XOk X) {F:FuncId→Option Func} (hF:FOk X.P F) {R0:Told α} (h0:ToldOk X R0) {TL:LoopsT α} (hTL:TLOk X F TL) {n:Nat} {body:Code} {S:St α} {k:Ex→St α→Option γ} {c:γ}
    (hL:∀b∈loopsOf body,LoopOk X L b) (h:exec X (callK X F R0 TL n) L body S k=some c):∃e S',k e S'=some c∧Goes X body S e S':=by
  have hR:ROk (X.withR (semR X F R0 TL γ n)):=by
    intro f' ds' b' d' hr hb
    have hr:semR X F R0 TL γ n f' ds'=some (b',d'):=hr
    unfold semR at hr
    split at hr
    · rename_i hex
      simp only [Option.some.injEq,Prod.mk.injEq] at hr
      rw [←hr.2]
      exact semOk hX hF h0 hTL n _ _ _ hex.choose_spec
    · simp at hr
  rw [←exec_withR (semR X F R0 TL γ n)] at h
  obtain ⟨e,S',h1,h2⟩:=exec_sound (xok_withR hX _) hR (ckOk X F R0 TL n) L c body (fun b hb=>loopOk_withR _ (hL b hb)) S k h
  exact ⟨e,S',h1,(goes_withR _).1 h2⟩
end
end Go.Eng
