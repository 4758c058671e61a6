/-
  THE ENGINE, PART R: A REGION: in the text's order, or in any that its edges allow.
-/
import Derived.Test.YtlnkjdedeegajaaGreatDoorEngQ
namespace Go.Eng
open Go.RowKit
variable {α:Type}
theorem chk_eq {γ:Type} {b:Bool} {x:Option γ} {c:γ} (h:chk b x=some c):b=true∧x=some c:=by
  cases b with
  | false=>simp [chk] at h
  | true=>exact ⟨rfl,h⟩
section
variable {X:Ctx α} {g:Gh} {tm:List (D α)} {hs:Obs α} {a:Act} {w:World}
def CKOk {γ:Type} (X:Ctx α) (RK:CK α γ):Prop:=∀f ds k c,RK f ds k=some c→∃d,X.R f ds=some (true,d)∧k d=some c
theorem setT_same:∀(tm:List (D α)) (s:Nat) (d:D α),getT tm s=d→d≠.bad→setT tm s d=tm
  | [],_,_,_,_=>rfl
  | e::r,0,d,h,_=>by simp only [getT] at h;simp [setT,h]
  | e::r,s+1,d,h,hb=>by simp only [getT] at h;simp [setT,setT_same r s d h hb]
theorem refineT_same {ops:Array Oper} {i:Nat} {o:Oper} {tm:List (D α)} {g:List (Nat×Bool)×Bool} (h:guardD ops i tm o=some g):refineT ops o tm g.2=tm:=by
  unfold refineT
  unfold guardD at h
  split
  · rfl
  · rename_i j want hg
    simp only [hg] at h
    cases hjb:Nat.ble (j+1) i with
    | false=>rw [hjb] at h;simp at h
    | true =>
    rw [hjb] at h
    simp only [cond_true] at h
    split
    · rfl
    · rename_i s hs'
      simp only [hs'] at h
      split
      · rename_i b hb
        simp only [hb,Option.some.injEq] at h
        subst h
        have e:(bif (b==want) then want else !want)=b:=by cases b<;>cases want<;>rfl
        simp only [e]
        exact setT_same tm s _ hb (by simp)
      · rename_i ks t b0 hb
        simp only [hb,Option.some.injEq] at h
        subst h
        have e:(bif t then (bif ((b0==want)&&t) then want else !want) else b0)=b0:=by cases t<;>cases b0<;>cases want<;>rfl
        simp only [e]
        exact setT_same tm s _ hb (by simp)
      · rfl
theorem callOf_eval {ks:List (Nat×Bool)} {o:Oper} {f:FuncId} {ds:List (D α)} {ns:List Nat} {d:D α} (h:callOf X tm hs ks o=some (f,ds,ns)) (hR:X.R f ds=some (true,d)) :
    evalOp X tm hs ks o=match bindD hs o.dst d with
      | some (m,p,e)=>⟨true&&closed d,e,some (tm,(m,.arr false p)::freeze hs ns)⟩
      | none=>bif isNil ns||flat d then ⟨true&&closed d,d,none⟩ else ⟨true&&closed d,d,some (tm,freeze hs ns)⟩:=by
  unfold callOf at h
  split at h
  · rename_i f' args argTypes ho
    split at h
    · rename_i g' cs hf
      cases hm:mOf X (fnId g') with
      | true=>rw [hm] at h;simp at h
      | false =>
      rw [hm] at h
      simp only [cond_false] at h
      split at h
      · rename_i ds' ns' hl
        simp only [Option.some.injEq,Prod.mk.injEq] at h
        obtain ⟨rfl,rfl,rfl⟩:=h
        simp only [evalOp,ho,hf,callD,hm,cond_false,hl,hR]
        cases bindD hs o.dst d<;>rfl
      · simp at h
    · simp at h
  · simp at h
theorem callOfM_eval {ks:List (Nat×Bool)} {o:Oper} {f:FuncId} {tops nests:List (Nat×Nat)} {H:Obs α} {ds os:List (D α)} {ns:List Nat} {d d':D α} {tm':List (D α)} {hs':Obs α} (h:callOfM X tm hs ks o=some (f,tops,nests,H,ds,ns))
    (hR:X.R (f+1000000) (.env (encH H) .bad::ds)=some (true,.env os d)) (hb:backM X tm hs tops nests ns (decH os) d=some (tm',hs',d')):evalOp X tm hs ks o=⟨true,d',some (tm',hs')⟩:=by
  unfold callOfM at h
  split at h
  · rename_i f' args argTypes ho
    split at h
    · rename_i g' cs hf
      cases hm:mOf X (fnId g') with
      | false=>rw [hm] at h;simp at h
      | true =>
      rw [hm] at h
      simp only [cond_true] at h
      split at h
      · rename_i x hl
        simp only [Option.some.injEq,Prod.mk.injEq] at h
        obtain ⟨rfl,rfl⟩:=h
        simp only [evalOp,ho,hf,callD,hm,cond_true,callMD,hl,hR,hb]
      · simp at h
    · simp at h
  · simp at h
theorem envOf_some {e:D α} {H:Obs α} {d:D α} (h:envOf e=some (H,d)):∃os,e=.env os d∧H=decH os:=by
  unfold envOf at h
  split at h
  · simp only [Option.some.injEq,Prod.mk.injEq] at h
    obtain ⟨rfl,rfl⟩:=h
    exact ⟨_,rfl,rfl⟩
  · simp at h
theorem trace {γ:Type} (X:Ctx α) (RK:CK α γ) (hRK:CKOk X RK) (ops:Array Oper) (k:List (D α)→Obs α→List Nat→List (List (D α)×Obs α)→Option γ) (c:γ):∀(rest:List Oper) (i:Nat) (tm:List (D α)) (hs:Obs α) (ws:List Nat) (lg:List (List (D α)×Obs α)),
    runL X RK ops i rest tm hs ws lg k=some c→∃(T:Nat→List (D α)) (H:Nat→Obs α) (W:Nat→Bool) (wsN:List Nat) (lgN:List (List (D α)×Obs α)),T i=tm∧H i=hs∧k (T (i+rest.length)) (H (i+rest.length)) wsN lgN=some c ∧
      (∀j o,rest[j]?=some o→AStep X ops (i+j) o (T (i+j)) (H (i+j)) (T (i+j+1)) (H (i+j+1)) (W (i+j)))∧(∀j,j < rest.length→W (i+j)=true→memN wsN (i+j)=true) ∧
      (∀x,memN ws x=true→memN wsN x=true)∧(∀j,j < lg.length→lgN[j]?=lg[j]?)∧∀j,j < rest.length→lgN[lg.length+j]?=some (T (i+j+1),H (i+j+1))
  | [],i,tm,hs,ws,lg,h=>⟨fun _=>tm,fun _=>hs,fun _=>false,ws,lg,rfl,rfl,h,fun j o ho=>by simp at ho,fun j hj=>by simp at hj,fun _ h=>h,fun _ _=>rfl,fun j hj=>by simp at hj⟩
  | o::rest,i,tm,hs,ws,lg,h=>by
    have hgo:∀tm1 hs1 W1 ws1,AStep X ops i o tm hs tm1 hs1 W1→(∀x,memN ws x=true→memN ws1 x=true)→(W1=true→memN ws1 i=true)→runL X RK ops (i+1) rest tm1 hs1 ws1 (lg++[(tm1,hs1)]) k=some c →
        ∃(T:Nat→List (D α)) (H:Nat→Obs α) (W:Nat→Bool) (wsN:List Nat) (lgN:List (List (D α)×Obs α)),T i=tm∧H i=hs∧k (T (i+(o::rest).length)) (H (i+(o::rest).length)) wsN lgN=some c ∧
        (∀j o',(o::rest)[j]?=some o'→AStep X ops (i+j) o' (T (i+j)) (H (i+j)) (T (i+j+1)) (H (i+j+1)) (W (i+j)))∧(∀j,j < (o::rest).length→W (i+j)=true→memN wsN (i+j)=true) ∧
        (∀x,memN ws x=true→memN wsN x=true)∧(∀j,j < lg.length→lgN[j]?=lg[j]?)∧∀j,j < (o::rest).length→lgN[lg.length+j]?=some (T (i+j+1),H (i+j+1)):=by
      intro tm1 hs1 W1 ws1 st hws hw1 h1
      obtain ⟨T,H,W,wsN,lgN,hT,hH,hk,hst,hW,hm,hl1,hl2⟩:=trace X RK hRK ops k c rest (i+1) tm1 hs1 ws1 (lg++[(tm1,hs1)]) h1
      rw [List.length_append,List.length_singleton] at hl1 hl2
      have hne:∀j,i+1+j≠i:=by intro j;omega
      refine ⟨fun n=>if n=i then tm else T n,fun n=>if n=i then hs else H n,fun n=>if n=i then W1 else W n,wsN,lgN,by simp,by simp,?_,fun j o' ho=>?_,fun j hj hw=>?_,fun x hx=>hm x (hws x hx),fun j hj=>by rw [hl1 j (by omega),List.getElem?_append_left hj],fun j hj=>?_⟩
      · have e:i+(o::rest).length=i+1+rest.length:=by simp;omega
        rw [e]
        simp only [hne,if_false]
        exact hk
      · cases j with
        | zero =>
          simp only [List.getElem?_cons_zero,Option.some.injEq] at ho
          subst ho
          have e:¬ (i+0+1=i):=by omega
          simp only [Nat.add_zero,if_true] at e ⊢
          simp only [e,if_false,hT,hH]
          exact st
        | succ j =>
          simp only [List.getElem?_cons_succ] at ho
          have:=hst j o' ho
          have e:i+(j+1)=i+1+j:=by omega
          rw [e]
          have e2:¬ (i+1+j+1=i):=by omega
          simp only [hne,e2,if_false]
          exact this
      · cases j with
        | zero=>simp only [Nat.add_zero,if_true] at hw ⊢;exact hm _ (hw1 hw)
        | succ j =>
          have e:i+(j+1)=i+1+j:=by omega
          rw [e] at hw ⊢
          simp only [hne,if_false] at hw
          exact hW j (by simpa using hj) hw
      · have e0:¬ (i+j+1=i):=by omega
        simp only [e0,if_false]
        cases j with
        | zero =>
          rw [Nat.add_zero,hl1 lg.length (by omega),List.getElem?_append_right (Nat.le_refl _),Nat.sub_self,Nat.add_zero,hT,hH]
          rfl
        | succ j =>
          have:=hl2 j (by simpa using hj)
          rw [show lg.length+(j+1)=lg.length+1+j by omega,this,show i+(j+1)+1=i+1+j+1 by omega]
    have hcons:∀x,memN ws x=true→memN (i::ws) x=true:=by intro x hx;simp [memN,hx]
    have hself:memN (i::ws) i=true:=by simp [memN]
    simp only [runL] at h
    split at h
    · simp at h
    · rename_i q hq
      have hrf:=refineT_same hq
      cases hcl:isCall o with
      | true =>
        simp only [hcl,cond_true] at h
        cases hq2:q.2 with
        | false =>
          rw [hq2] at h hrf
          simp only [br,cond_false,hrf] at h
          exact hgo _ _ _ _ (.off q hq hq2 false) (fun _ h=>h) (by simp) h
        | true =>
          rw [hq2] at h hrf
          simp only [br,cond_true,hrf] at h
          split at h
          · split at h
            · simp at h
            · rename_i f tops nests H ds ns hco
              obtain ⟨e,hR,hd⟩:=hRK _ _ _ _ h
              split at hd
              · rename_i H' d he
                split at hd
                · rename_i tm' hs' d' hbk
                  obtain ⟨os,rfl,rfl⟩:=envOf_some he
                  have he:=callOfM_eval hco hR hbk
                  have:=AStep.write (X:=X) (ops:=ops) (i:=i) (o:=o) (tm:=tm) (hs:=hs) q hq tm' hs' (by rw [he]) hq2 (by rw [he])
                  rw [he] at this
                  exact hgo _ _ _ _ this hcons (fun _=>hself) hd
                · simp at hd
              · simp at hd
          · rename_i f ds ns hco
            obtain ⟨d,hR,hd⟩:=hRK _ _ _ _ h
            obtain ⟨h1,h2⟩:=chk_eq hd
            have he:=callOf_eval hco hR
            cases hbd:bindD hs o.dst d with
            | some x =>
              obtain ⟨m,p,e⟩:=x
              rw [hbd] at he h2
              simp only at he h2
              have:=AStep.write (X:=X) (ops:=ops) (i:=i) (o:=o) (tm:=tm) (hs:=hs) q hq tm ((m,.arr false p)::freeze hs ns) (by rw [he]) hq2 (by rw [he];simpa using h1)
              rw [he] at this
              exact hgo _ _ _ _ this hcons (fun _=>hself) h2
            | none =>
            rw [hbd] at he h2
            simp only at he h2
            cases hb:isNil ns||flat d with
            | true =>
              rw [hb] at he h2
              simp only [cond_true] at he h2
              have:=AStep.on (X:=X) (ops:=ops) (i:=i) (o:=o) (tm:=tm) (hs:=hs) q hq (by rw [he]) hq2 (by rw [he];simpa using h1)
              rw [he] at this
              exact hgo _ _ _ _ this (fun _ h=>h) (by simp) h2
            | false =>
              rw [hb] at he h2
              simp only [cond_false] at he h2
              have:=AStep.write (X:=X) (ops:=ops) (i:=i) (o:=o) (tm:=tm) (hs:=hs) q hq tm (freeze hs ns) (by rw [he]) hq2 (by rw [he];simpa using h1)
              rw [he] at this
              exact hgo _ _ _ _ this hcons (fun _=>hself) h2
      | false =>
        simp only [hcl,cond_false] at h
        split at h
        · rename_i hc
          obtain ⟨h1,h2⟩:=chk_eq h
          exact hgo _ _ _ _ (.quiet q hq hc h1) (fun _ h=>h) (by simp) h2
        · rename_i tm' hs' hc hgn
          obtain ⟨h1,h2⟩:=chk_eq h
          refine hgo _ _ _ _ (.write q hq tm' hs' hc ?_ h1) hcons (fun _=>hself) h2
          simp only [guardD,hgn,Option.some.injEq] at hq
          rw [←hq]
        · rename_i tm' hs' gd hc hgn
          cases hq2:q.2 with
          | true =>
            rw [hq2] at h
            obtain ⟨h1,h2⟩:=chk_eq (show chk _ _=some c from h)
            exact hgo _ _ _ _ (.write q hq tm' hs' hc hq2 h1) hcons (fun _=>hself) h2
          | false =>
            rw [hq2] at h
            exact hgo _ _ _ _ (.off q hq hq2 true) hcons (fun _=>hself) (show runL _ _ _ _ _ _ _ _ _ _=some c from h)
theorem distinctD_spec:∀(l:List (Option Nat)),distinctD l=true→∀(i j:Nat) d,l[i]?=some (some d)→l[j]?=some (some d)→i=j
  | [],_,i,j,d,hi,_=>by simp at hi
  | none::r,h,i,j,d,hi,hj=>by
    cases i with
    | zero=>simp at hi
    | succ i =>
      cases j with
      | zero=>simp at hj
      | succ j=>rw [distinctD_spec r h i j d (by simpa using hi) (by simpa using hj)]
  | some e::r,h,i,j,d,hi,hj=>by
    simp only [distinctD,Bool.and_eq_true,Bool.not_eq_true'] at h
    have hmem:∀(k:Nat),r[k]?=some (some e)→False:=by
      intro k hk
      have hin:e∈r.filterMap id:=List.mem_filterMap.2 ⟨some e,List.mem_of_getElem? hk,rfl⟩
      have:∀l:List Nat,e∈l→memN l e=true:=by
        intro l
        induction l with
        | nil=>simp
        | cons x l ih =>
          intro hm
          rcases List.mem_cons.1 hm with rfl | hm
          · simp [memN]
          · simp [memN,ih hm]
      rw [this _ hin] at h
      simp at h
    cases i with
    | zero =>
      simp only [List.getElem?_cons_zero,Option.some.injEq] at hi
      subst hi
      cases j with
      | zero=>rfl
      | succ j=>exact (hmem j (by simpa using hj)).elim
    | succ i =>
      cases j with
      | zero =>
        simp only [List.getElem?_cons_zero,Option.some.injEq] at hj
        subst hj
        exact (hmem i (by simpa using hi)).elim
      | succ j=>rw [distinctD_spec r h.2 i j d (by simpa using hi) (by simpa using hj)]
def SlotsOK (ops:Array Oper):Prop:=(∀o∈ops,o.guard=none)∨∀(i j:Nat) s,slotOf ops i=some s→slotOf ops j=some s→i=j
def KOf (ops:Array Oper) (L:Nat→Prop) (s:Nat):Prop:=¬ (∀o∈ops,o.guard=none)∧∃j,L j∧slotOf ops j=some s
theorem slots_of {ops:Array Oper} {draw:Bool} (h:(distinctD (allDst ops)||(!draw&&ops.all (fun o=>o.guard.isNone)))=true):SlotsOK ops∧(draw=true→∀(i j:Nat) s,slotOf ops i=some s→slotOf ops j=some s→i=j):=by
  have hd:distinctD (allDst ops)=true→∀(i j:Nat) s,slotOf ops i=some s→slotOf ops j=some s→i=j:=by
    intro h i j s hi hj
    have hget:∀(k:Nat),slotOf ops k=some s→(allDst ops)[k]?=some (some s):=by
      intro k hk
      unfold slotOf at hk
      cases ho:ops[k]? with
      | none=>rw [ho] at hk;simp at hk
      | some o=>rw [ho] at hk;simp only [Option.bind_some] at hk;simp [allDst,ho,hk]
    exact distinctD_spec _ h i j s (hget i hi) (hget j hj)
  simp only [Bool.or_eq_true,Bool.and_eq_true,Bool.not_eq_true'] at h
  rcases h with h | ⟨h1,h2⟩
  · exact ⟨.inr (hd h),fun _=>hd h⟩
  · refine ⟨.inl fun o ho=>?_,fun hh=>by rw [hh] at h1;simp at h1⟩
    have:=(Array.all_eq_true'.1 h2) o ho
    simpa using this
theorem slot_dst {ops:Array Oper} {i:Nat} {o:Oper} (h:ops[i]?=some o):slotOf ops i=o.dst:=by simp [slotOf,h]
theorem step_region' (hX:XOk X) (hR:ROk X) (hS:Sim X g tm hs a w) {ops:Array Oper} (hsl:SlotsOK ops) {L L':Nat→Prop} {i:Nat} {o:Oper} {tm1:List (D α)} {hs1:Obs α} {W:Bool}
    (hi:ops[i]?=some o) (st:AStep X ops i o tm hs tm1 hs1 W) (hK:KeyIn tm (KOf ops L)) (hiL:¬ L i) (hLL:∀j,L j→L' j) (hgL:∀j want,o.guard=some (j,want)→j < i→(slotOf ops j).isSome=true→L j)
    {Kt:Act→World→Prop} {Q:Exit→Act→World→Prop} (hQ:∀rho' a' w',Sim X { g with rho:=rho' } tm1 hs1 a' w'→KeyIn tm1 (KOf ops L')→Kt a' w'):wpOp X.P ops Q i Kt a w:=by
  have hdist:¬ (∀o∈ops,o.guard=none)→∀(i j:Nat) s,slotOf ops i=some s→slotOf ops j=some s→i=j:=fun hn=>hsl.resolve_left hn
  refine astep_sound hX hR hS hi st (K:=KOf ops L) (K':=KOf ops L') hK (fun s ⟨h1,j,h2,h3⟩=>⟨h1,j,hLL j h2,h3⟩) (fun s hs' ⟨h1,j,h2,h3⟩=>?_) (fun j want s hg hj hs'=>?_) hQ
  · have:=hdist h1 j i s h3 (by rw [slot_dst hi];exact hs')
    subst this
    exact hiL h2
  · have hn:¬ (∀o∈ops,o.guard=none):=fun h=>by
      have:=h o (Array.mem_of_getElem? hi)
      rw [hg] at this;simp at this
    refine ⟨fun hd=>?_,hn,j,hLL j (hgL j want hg hj (by rw [hs'];rfl)),hs'⟩
    have:=hdist hn j i s hs' (by rw [slot_dst hi];exact hd)
    omega
theorem wpOps_range' {P:Program} {ops:Array Oper} {Q:Exit→Act→World→Prop} (i m:Nat) (a:Act) (w:World) (h:wpOp P ops Q i (wpOps P ops Q (List.range' (i+1) m)) a w):wpOps P ops Q (List.range' i (m+1)) a w:=by
  rw [List.range'_succ,wpOps_cons];exact h
theorem lexical (hX:XOk X) (hR:ROk X) {ops:Array Oper} (hsl:SlotsOK ops) {T:Nat→List (D α)} {H:Nat→Obs α} {W:Nat→Bool}
    (hst:∀(i:Nat) o,ops[i]?=some o→AStep X ops i o (T i) (H i) (T (i+1)) (H (i+1)) (W i)) {Q:Exit→Act→World→Prop}
    (hQ:∀rho' a' w',Sim X { g with rho:=rho' } (T ops.size) (H ops.size) a' w'→KeyIn (T ops.size) (KOf ops fun _=>True)→Q .normal a' w') :
    ∀(m i:Nat) (rho:Nat→Option Nat) (a:Act) (w:World),i+m=ops.size→Sim X { g with rho:=rho } (T i) (H i) a w→KeyIn (T i) (KOf ops fun j=>j < i)→wpOps X.P ops Q (List.range' i m) a w
  | 0,i,rho,a,w,hi,hS,hK=>by
    simp only [List.range'_zero,wpOps]
    obtain rfl:i=ops.size:=by omega
    exact hQ rho a w hS (hK.mono fun s ⟨h1,j,_,h3⟩=>⟨h1,j,trivial,h3⟩)
  | m+1,i,rho,a,w,hi,hS,hK=>by
    refine wpOps_range' i m a w ?_
    have hlt:i < ops.size:=by omega
    have ho:ops[i]?=some ops[i]:=by simp [hlt]
    refine step_region' hX hR hS hsl (L:=fun j=>j < i) (L':=fun j=>j < i+1) ho (hst i _ ho) hK (by omega) (fun j h=>by omega) (fun j want hg hj _=>hj) fun rho' a' w' h1 h2=>?_
    exact lexical hX hR hsl hst hQ m (i+1) rho' a' w' (by omega) h1 h2
end
end Go.Eng
