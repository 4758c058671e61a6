/-
 THE ENGINE, PART S: A REGION IN ANY ORDER THAT ITS EDGES ALLOW.
-/
import Derived.Test.YtcgbgcconigdbaaGreatDoorEngQ
namespace Go.Eng
open Go.RowKit
variable {α:Type}
theorem chk_eq {γ:Type} {b:Bool} {x:Option γ} {c:γ} (h:chk b x=some c):b=true∧x=some c:=by
 cases b with
 | false=>simp [chk] at h
 | true=>exact ⟨rfl,h⟩
section
variable {X:Ctx α} {g:Gh} {tm:List (D α)} {hs:Obs α} {a:Act} {w:World}
def CKOk {γ:Type} (X:Ctx α) (RK:CK α γ):Prop:=∀f ds k c,RK f ds k=some c→∃d,X.R f ds=some (true,d)∧k d=some c
theorem setT_same:∀(tm:List (D α)) (s:Nat) (d:D α),getT tm s=d→d≠.bad→setT tm s d=tm
 | [],_,_,_,_=>rfl
 | e::r,0,d,h,_=>by simp only [getT] at h;simp [setT,h]
 | e::r,s+1,d,h,hb=>by simp only [getT] at h;simp [setT,setT_same r s d h hb]
theorem refineT_same {ops:Array Oper} {i:Nat} {o:Oper} {tm:List (D α)} {g:List (Nat×Bool)×Bool} (h:guardD ops i tm o=some g):refineT ops o tm g.2=tm:=by
 unfold refineT
 unfold guardD at h
 split
 ·rfl
 ·rename_i j want hg
  simp only [hg] at h
  cases hjb:Nat.ble (j+1) i with
  | false=>rw [hjb] at h;simp at h
  | true =>
  rw [hjb] at h
  simp only [cond_true] at h
  split
  ·rfl
  ·rename_i s hs'
   simp only [hs'] at h
   split
   ·rename_i b hb
    simp only [hb,Option.some.injEq] at h
    subst h
    have e:(bif (b==want) then want else !want)=b:=by cases b<;>cases want<;>rfl
    simp only [e]
    exact setT_same tm s _ hb (by simp)
   ·rename_i ks t b0 hb
    simp only [hb,Option.some.injEq] at h
    subst h
    have e:(bif t then (bif ((b0==want)&&t) then want else !want) else b0)=b0:=by cases t<;>cases b0<;>cases want<;>rfl
    simp only [e]
    exact setT_same tm s _ hb (by simp)
   ·rfl
theorem callOf_eval {ks:List (Nat×Bool)} {o:Oper} {f:FuncId} {ds:List (D α)} {ns:List Nat} {d:D α} (h:callOf X tm hs ks o=some (f,ds,ns)) (hR:X.R f ds=some (true,d)) :
  evalOp X tm hs ks o=match bindD hs o.dst d with
   | some (m,p,e)=>⟨true&&closed d,e,some (tm,(m,.arr false p)::freeze hs ns)⟩
   | none=>bif isNil ns||flat d then ⟨true&&closed d,d,none⟩ else ⟨true&&closed d,d,some (tm,freeze hs ns)⟩:=by
 unfold callOf at h
 split at h
 ·rename_i f' args argTypes ho
  split at h
  ·rename_i g' cs hf
   cases hm:mOf X (fnId g') with
   | true=>rw [hm] at h;simp at h
   | false =>
   rw [hm] at h
   simp only [cond_false] at h
   split at h
   ·rename_i ds' ns' hl
    simp only [Option.some.injEq,Prod.mk.injEq] at h
    obtain ⟨rfl,rfl,rfl⟩:=h
    simp only [evalOp,ho,hf,callD,hm,cond_false,hl,hR]
    cases bindD hs o.dst d<;>rfl
   ·simp at h
  ·simp at h
 ·simp at h
theorem callOfM_eval {ks:List (Nat×Bool)} {o:Oper} {f:FuncId} {tops nests:List (Nat×Nat)} {H:Obs α} {ds os:List (D α)} {ns:List Nat} {d d':D α} {tm':List (D α)} {hs':Obs α} (h:callOfM X tm hs ks o=some (f,tops,nests,H,ds,ns))
  (hR:X.R (f+1000000) (.env (encH H) .bad::ds)=some (true,.env os d)) (hb:backM X tm hs tops nests ns (decH os) d=some (tm',hs',d')):evalOp X tm hs ks o=⟨true,d',some (tm',hs')⟩:=by
 unfold callOfM at h
 split at h
 ·rename_i f' args argTypes ho
  split at h
  ·rename_i g' cs hf
   cases hm:mOf X (fnId g') with
   | false=>rw [hm] at h;simp at h
   | true =>
   rw [hm] at h
   simp only [cond_true] at h
   split at h
   ·rename_i x hl
    simp only [Option.some.injEq,Prod.mk.injEq] at h
    obtain ⟨rfl,rfl⟩:=h
    simp only [evalOp,ho,hf,callD,hm,cond_true,callMD,hl,hR,hb]
   ·simp at h
  ·simp at h
 ·simp at h
theorem envOf_some {e:D α} {H:Obs α} {d:D α} (h:envOf e=some (H,d)):∃os,e=.env os d∧H=decH os:=by
 unfold envOf at h
 split at h
 ·simp only [Option.some.injEq,Prod.mk.injEq] at h
  obtain ⟨rfl,rfl⟩:=h
  exact ⟨_,rfl,rfl⟩
 ·simp at h
theorem trace {γ:Type} (X:Ctx α) (RK:CK α γ) (hRK:CKOk X RK) (ops:Array Oper) (k:List (D α)→Obs α→List Nat→List (List (D α)×Obs α)→Option γ) (c:γ):∀(rest:List Oper) (i:Nat) (tm:List (D α)) (hs:Obs α) (ws:List Nat) (lg:List (List (D α)×Obs α)),
  runL X RK ops i rest tm hs ws lg k=some c→∃(T:Nat→List (D α)) (H:Nat→Obs α) (W:Nat→Bool) (wsN:List Nat) (lgN:List (List (D α)×Obs α)),T i=tm∧H i=hs∧k (T (i+rest.length)) (H (i+rest.length)) wsN lgN=some c ∧
   (∀j o,rest[j]?=some o→AStep X ops (i+j) o (T (i+j)) (H (i+j)) (T (i+j+1)) (H (i+j+1)) (W (i+j)))∧(∀j,j < rest.length→W (i+j)=true→memN wsN (i+j)=true) ∧
   (∀x,memN ws x=true→memN wsN x=true)∧(∀j,j < lg.length→lgN[j]?=lg[j]?)∧∀j,j < rest.length→lgN[lg.length+j]?=some (T (i+j+1),H (i+j+1))
 | [],i,tm,hs,ws,lg,h=>⟨fun _=>tm,fun _=>hs,fun _=>false,ws,lg,rfl,rfl,h,fun j o ho=>by simp at ho,fun j hj=>by simp at hj,fun _ h=>h,fun _ _=>rfl,fun j hj=>by simp at hj⟩
 | o::rest,i,tm,hs,ws,lg,h=>by
  have hgo:∀tm1 hs1 W1 ws1,AStep X ops i o tm hs tm1 hs1 W1→(∀x,memN ws x=true→memN ws1 x=true)→(W1=true→memN ws1 i=true)→runL X RK ops (i+1) rest tm1 hs1 ws1 (lg++[(tm1,hs1)]) k=some c →
    ∃(T:Nat→List (D α)) (H:Nat→Obs α) (W:Nat→Bool) (wsN:List Nat) (lgN:List (List (D α)×Obs α)),T i=tm∧H i=hs∧k (T (i+(o::rest).length)) (H (i+(o::rest).length)) wsN lgN=some c ∧
    (∀j o',(o::rest)[j]?=some o'→AStep X ops (i+j) o' (T (i+j)) (H (i+j)) (T (i+j+1)) (H (i+j+1)) (W (i+j)))∧(∀j,j < (o::rest).length→W (i+j)=true→memN wsN (i+j)=true) ∧
    (∀x,memN ws x=true→memN wsN x=true)∧(∀j,j < lg.length→lgN[j]?=lg[j]?)∧∀j,j < (o::rest).length→lgN[lg.length+j]?=some (T (i+j+1),H (i+j+1)):=by
   intro tm1 hs1 W1 ws1 st hws hw1 h1
   obtain ⟨T,H,W,wsN,lgN,hT,hH,hk,hst,hW,hm,hl1,hl2⟩:=trace X RK hRK ops k c rest (i+1) tm1 hs1 ws1 (lg++[(tm1,hs1)]) h1
   rw [List.length_append,List.length_singleton] at hl1 hl2
   have hne:∀j,i+1+j≠i:=by intro j;omega
   refine ⟨fun n=>if n=i then tm else T n,fun n=>if n=i then hs else H n,fun n=>if n=i then W1 else W n,wsN,lgN,by simp,by simp,?_,fun j o' ho=>?_,fun j hj hw=>?_,fun x hx=>hm x (hws x hx),fun j hj=>by rw [hl1 j (by omega),List.getElem?_append_left hj],fun j hj=>?_⟩
   ·have e:i+(o::rest).length=i+1+rest.length:=by simp;omega
    rw [e]
    simp only [hne,if_false]
    exact hk
   ·cases j with
    | zero =>
     simp only [List.getElem?_cons_zero,Option.some.injEq] at ho
     subst ho
     have e:¬ (i+0+1=i):=by omega
     simp only [Nat.add_zero,if_true] at e ⊢
     simp only [e,if_false,hT,hH]
     exact st
    | succ j =>
     simp only [List.getElem?_cons_succ] at ho
     have:=hst j o' ho
     have e:i+(j+1)=i+1+j:=by omega
     rw [e]
     have e2:¬ (i+1+j+1=i):=by omega
     simp only [hne,e2,if_false]
     exact this
   ·cases j with
    | zero=>simp only [Nat.add_zero,if_true] at hw ⊢;exact hm _ (hw1 hw)
    | succ j =>
     have e:i+(j+1)=i+1+j:=by omega
     rw [e] at hw ⊢
     simp only [hne,if_false] at hw
     exact hW j (by simpa using hj) hw
   ·have e0:¬ (i+j+1=i):=by omega
    simp only [e0,if_false]
    cases j with
    | zero =>
     rw [Nat.add_zero,hl1 lg.length (by omega),List.getElem?_append_right (Nat.le_refl _),Nat.sub_self,Nat.add_zero,hT,hH]
     rfl
    | succ j =>
     have:=hl2 j (by simpa using hj)
     rw [show lg.length+(j+1)=lg.length+1+j by omega,this,show i+(j+1)+1=i+1+j+1 by omega]
  have hcons:∀x,memN ws x=true→memN (i::ws) x=true:=by intro x hx;simp [memN,hx]
  have hself:memN (i::ws) i=true:=by simp [memN]
  simp only [runL] at h
  split at h
  ·simp at h
  ·rename_i q hq
   have hrf:=refineT_same hq
   cases hcl:isCall o with
   | true =>
    simp only [hcl,cond_true] at h
    cases hq2:q.2 with
    | false =>
     rw [hq2] at h hrf
     simp only [br,cond_false,hrf] at h
     exact hgo _ _ _ _ (.off q hq hq2 false) (fun _ h=>h) (by simp) h
    | true =>
     rw [hq2] at h hrf
     simp only [br,cond_true,hrf] at h
     split at h
     ·split at h
      ·simp at h
      ·rename_i f tops nests H ds ns hco
       obtain ⟨e,hR,hd⟩:=hRK _ _ _ _ h
       split at hd
       ·rename_i H' d he
        split at hd
        ·rename_i tm' hs' d' hbk
         obtain ⟨os,rfl,rfl⟩:=envOf_some he
         have he:=callOfM_eval hco hR hbk
         have:=AStep.write (X:=X) (ops:=ops) (i:=i) (o:=o) (tm:=tm) (hs:=hs) q hq tm' hs' (by rw [he]) hq2 (by rw [he])
         rw [he] at this
         exact hgo _ _ _ _ this hcons (fun _=>hself) hd
        ·simp at hd
       ·simp at hd
     ·rename_i f ds ns hco
      obtain ⟨d,hR,hd⟩:=hRK _ _ _ _ h
      obtain ⟨h1,h2⟩:=chk_eq hd
      have he:=callOf_eval hco hR
      cases hbd:bindD hs o.dst d with
      | some x =>
       obtain ⟨m,p,e⟩:=x
       rw [hbd] at he h2
       simp only at he h2
       have:=AStep.write (X:=X) (ops:=ops) (i:=i) (o:=o) (tm:=tm) (hs:=hs) q hq tm ((m,.arr false p)::freeze hs ns) (by rw [he]) hq2 (by rw [he];simpa using h1)
       rw [he] at this
       exact hgo _ _ _ _ this hcons (fun _=>hself) h2
      | none =>
      rw [hbd] at he h2
      simp only at he h2
      cases hb:isNil ns||flat d with
      | true =>
       rw [hb] at he h2
       simp only [cond_true] at he h2
       have:=AStep.on (X:=X) (ops:=ops) (i:=i) (o:=o) (tm:=tm) (hs:=hs) q hq (by rw [he]) hq2 (by rw [he];simpa using h1)
       rw [he] at this
       exact hgo _ _ _ _ this (fun _ h=>h) (by simp) h2
      | false =>
       rw [hb] at he h2
       simp only [cond_false] at he h2
       have:=AStep.write (X:=X) (ops:=ops) (i:=i) (o:=o) (tm:=tm) (hs:=hs) q hq tm (freeze hs ns) (by rw [he]) hq2 (by rw [he];simpa using h1)
       rw [he] at this
       exact hgo _ _ _ _ this hcons (fun _=>hself) h2
   | false =>
    simp only [hcl,cond_false] at h
    split at h
    ·rename_i hc
     obtain ⟨h1,h2⟩:=chk_eq h
     exact hgo _ _ _ _ (.quiet q hq hc h1) (fun _ h=>h) (by simp) h2
    ·rename_i tm' hs' hc hgn
     obtain ⟨h1,h2⟩:=chk_eq h
     refine hgo _ _ _ _ (.write q hq tm' hs' hc ?_ h1) hcons (fun _=>hself) h2
     simp only [guardD,hgn,Option.some.injEq] at hq
     rw [←hq]
    ·rename_i tm' hs' gd hc hgn
     cases hq2:q.2 with
     | true =>
      rw [hq2] at h
      obtain ⟨h1,h2⟩:=chk_eq (show chk _ _=some c from h)
      exact hgo _ _ _ _ (.write q hq tm' hs' hc hq2 h1) hcons (fun _=>hself) h2
     | false =>
      rw [hq2] at h
      exact hgo _ _ _ _ (.off q hq hq2 true) hcons (fun _=>hself) (show runL _ _ _ _ _ _ _ _ _ _=some c from h)
theorem distinctD_spec:∀(l:List (Option Nat)),distinctD l=true→∀(i j:Nat) d,l[i]?=some (some d)→l[j]?=some (some d)→i=j
 | [],_,i,j,d,hi,_=>by simp at hi
 | none::r,h,i,j,d,hi,hj=>by
  cases i with
  | zero=>simp at hi
  | succ i =>
   cases j with
   | zero=>simp at hj
   | succ j=>rw [distinctD_spec r h i j d (by simpa using hi) (by simpa using hj)]
 | some e::r,h,i,j,d,hi,hj=>by
  simp only [distinctD,Bool.and_eq_true,Bool.not_eq_true'] at h
  have hmem:∀(k:Nat),r[k]?=some (some e)→False:=by
   intro k hk
   have hin:e∈r.filterMap id:=List.mem_filterMap.2 ⟨some e,List.mem_of_getElem? hk,rfl⟩
   have:∀l:List Nat,e∈l→memN l e=true:=by
    intro l
    induction l with
    | nil=>simp
    | cons x l ih =>
     intro hm
     rcases List.mem_cons.1 hm with rfl | hm
     ·simp [memN]
     ·simp [memN,ih hm]
   rw [this _ hin] at h
   simp at h
  cases i with
  | zero =>
   simp only [List.getElem?_cons_zero,Option.some.injEq] at hi
   subst hi
   cases j with
   | zero=>rfl
   | succ j=>exact (hmem j (by simpa using hj)).elim
  | succ i =>
   cases j with
   | zero =>
    simp only [List.getElem?_cons_zero,Option.some.injEq] at hj
    subst hj
    exact (hmem i (by simpa using hi)).elim
   | succ j=>rw [distinctD_spec r h.2 i j d (by simpa using hi) (by simpa using hj)]
def SlotsOK (ops:Array Oper):Prop:=(∀o∈ops,o.guard=none)∨∀(i j:Nat) s,slotOf ops i=some s→slotOf ops j=some s→i=j
def KOf (ops:Array Oper) (L:Nat→Prop) (s:Nat):Prop:=¬ (∀o∈ops,o.guard=none)∧∃j,L j∧slotOf ops j=some s
theorem slots_of {ops:Array Oper} {draw:Bool} (h:(distinctD (allDst ops)||(!draw&&ops.all (fun o=>o.guard.isNone)))=true):SlotsOK ops∧(draw=true→∀(i j:Nat) s,slotOf ops i=some s→slotOf ops j=some s→i=j):=by
 have hd:distinctD (allDst ops)=true→∀(i j:Nat) s,slotOf ops i=some s→slotOf ops j=some s→i=j:=by
  intro h i j s hi hj
  have hget:∀(k:Nat),slotOf ops k=some s→(allDst ops)[k]?=some (some s):=by
   intro k hk
   unfold slotOf at hk
   cases ho:ops[k]? with
   | none=>rw [ho] at hk;simp at hk
   | some o=>rw [ho] at hk;simp only [Option.bind_some] at hk;simp [allDst,ho,hk]
  exact distinctD_spec _ h i j s (hget i hi) (hget j hj)
 simp only [Bool.or_eq_true,Bool.and_eq_true,Bool.not_eq_true'] at h
 rcases h with h | ⟨h1,h2⟩
 ·exact ⟨.inr (hd h),fun _=>hd h⟩
 ·refine ⟨.inl fun o ho=>?_,fun hh=>by rw [hh] at h1;simp at h1⟩
  have:=(Array.all_eq_true'.1 h2) o ho
  simpa using this
theorem slot_dst {ops:Array Oper} {i:Nat} {o:Oper} (h:ops[i]?=some o):slotOf ops i=o.dst:=by simp [slotOf,h]
theorem step_region' (hX:XOk X) (hR:ROk X) (hS:Sim X g tm hs a w) {ops:Array Oper} (hsl:SlotsOK ops) {L L':Nat→Prop} {i:Nat} {o:Oper} {tm1:List (D α)} {hs1:Obs α} {W:Bool}
  (hi:ops[i]?=some o) (st:AStep X ops i o tm hs tm1 hs1 W) (hK:KeyIn tm (KOf ops L)) (hiL:¬ L i) (hLL:∀j,L j→L' j) (hgL:∀j want,o.guard=some (j,want)→j < i→(slotOf ops j).isSome=true→L j)
  {Kt:Act→World→Prop} {Q:Exit→Act→World→Prop} (hQ:∀rho' a' w',Sim X { g with rho:=rho' } tm1 hs1 a' w'→KeyIn tm1 (KOf ops L')→Kt a' w'):wpOp X.P ops Q i Kt a w:=by
 have hdist:¬ (∀o∈ops,o.guard=none)→∀(i j:Nat) s,slotOf ops i=some s→slotOf ops j=some s→i=j:=fun hn=>hsl.resolve_left hn
 refine astep_sound hX hR hS hi st (K:=KOf ops L) (K':=KOf ops L') hK (fun s ⟨h1,j,h2,h3⟩=>⟨h1,j,hLL j h2,h3⟩) (fun s hs' ⟨h1,j,h2,h3⟩=>?_) (fun j want s hg hj hs'=>?_) hQ
 ·have:=hdist h1 j i s h3 (by rw [slot_dst hi];exact hs')
  subst this
  exact hiL h2
 ·have hn:¬ (∀o∈ops,o.guard=none):=fun h=>by
   have:=h o (Array.mem_of_getElem? hi)
   rw [hg] at this;simp at this
  refine ⟨fun hd=>?_,hn,j,hLL j (hgL j want hg hj (by rw [hs'];rfl)),hs'⟩
  have:=hdist hn j i s hs' (by rw [slot_dst hi];exact hd)
  omega
theorem wpOps_range' {P:Program} {ops:Array Oper} {Q:Exit→Act→World→Prop} (i m:Nat) (a:Act) (w:World) (h:wpOp P ops Q i (wpOps P ops Q (List.range' (i+1) m)) a w):wpOps P ops Q (List.range' i (m+1)) a w:=by
 rw [List.range'_succ,wpOps_cons];exact h
theorem lexical (hX:XOk X) (hR:ROk X) {ops:Array Oper} (hsl:SlotsOK ops) {T:Nat→List (D α)} {H:Nat→Obs α} {W:Nat→Bool}
  (hst:∀(i:Nat) o,ops[i]?=some o→AStep X ops i o (T i) (H i) (T (i+1)) (H (i+1)) (W i)) {Q:Exit→Act→World→Prop}
  (hQ:∀rho' a' w',Sim X { g with rho:=rho' } (T ops.size) (H ops.size) a' w'→KeyIn (T ops.size) (KOf ops fun _=>True)→Q .normal a' w') :
  ∀(m i:Nat) (rho:Nat→Option Nat) (a:Act) (w:World),i+m=ops.size→Sim X { g with rho:=rho } (T i) (H i) a w→KeyIn (T i) (KOf ops fun j=>j < i)→wpOps X.P ops Q (List.range' i m) a w
 | 0,i,rho,a,w,hi,hS,hK=>by
  simp only [List.range'_zero,wpOps]
  obtain rfl:i=ops.size:=by omega
  exact hQ rho a w hS (hK.mono fun s ⟨h1,j,_,h3⟩=>⟨h1,j,trivial,h3⟩)
 | m+1,i,rho,a,w,hi,hS,hK=>by
  refine wpOps_range' i m a w ?_
  have hlt:i < ops.size:=by omega
  have ho:ops[i]?=some ops[i]:=by simp [hlt]
  refine step_region' hX hR hS hsl (L:=fun j=>j < i) (L':=fun j=>j < i+1) ho (hst i _ ho) hK (by omega) (fun j h=>by omega) (fun j want hg hj _=>hj) fun rho' a' w' h1 h2=>?_
  exact lexical hX hR hsl hst hQ m (i+1) rho' a' w' (by omega) h1 h2
end
end Go.Eng
namespace Go.Eng
open Go.RowKit
variable {α:Type}
theorem hasBit_test (m i:Nat):hasBit m i=true↔m.testBit i=true:=by
 unfold hasBit
 rw [Nat.testBit_eq_decide_div_mod_eq,decide_eq_true_eq]
 have h:Nat.land (Nat.shiftRight m i) 1=(m / 2 ^ i) % 2:=by
  show (m >>> i) &&& 1=_
  rw [Nat.and_one_is_mod,Nat.shiftRight_eq_div_pow]
 rw [h]
 exact ⟨Nat.eq_of_beq_eq_true,fun h=>by rw [h];rfl⟩
theorem hasBit_lor {a b i:Nat} (h:hasBit (Nat.lor a b) i=true):hasBit a i=true∨hasBit b i=true:=by
 rw [hasBit_test] at *
 rw [hasBit_test]
 have:(a ||| b).testBit i=true:=h
 rw [Nat.testBit_or] at this
 simpa using this
theorem hasBit_zero (i:Nat):hasBit 0 i=true→False:=by
 rw [hasBit_test];simp
theorem hasBit_one {k i:Nat} (h:hasBit (Nat.shiftLeft 1 k) i=true):i=k:=by
 rw [hasBit_test] at h
 have:(1 <<< k).testBit i=true:=h
 rw [Nat.one_shiftLeft,Nat.testBit_two_pow] at this
 simpa [eq_comm] using this
theorem preOf_spec (acc:List Nat):∀(l:List Edge) (x:Nat),hasBit (preOf acc l) x=true→∃e∈l,Region.binds .any e=true∧(x=e.on∨hasBit ((acc[e.on]?).getD 0) x=true)
 | [],x,h=>(hasBit_zero x h).elim
 | e::r,x,h=>by
  simp only [preOf] at h
  cases hb:Region.binds .any e with
  | false =>
   simp only [hb,cond_false] at h
   obtain ⟨e',h1,h2⟩:=preOf_spec acc r x h
   exact ⟨e',List.mem_cons_of_mem _ h1,h2⟩
  | true =>
   simp only [hb,cond_true] at h
   rcases hasBit_lor h with h | h
   ·rcases hasBit_lor h with h | h
    ·exact ⟨e,List.mem_cons_self,hb,.inl (hasBit_one h)⟩
    ·exact ⟨e,List.mem_cons_self,hb,.inr h⟩
   ·obtain ⟨e',h1,h2⟩:=preOf_spec acc r x h
    exact ⟨e',List.mem_cons_of_mem _ h1,h2⟩
theorem presOf_spec:∀(l:List Oper) (acc:List Nat),(presOf l acc).take acc.length=acc∧∀(j:Nat) o,l[j]?=some o→(presOf l acc)[acc.length+j]?=some (preOf ((presOf l acc).take (acc.length+j)) o.after.toList)
 | [],acc=>⟨by simp [presOf],fun j o h=>by simp at h⟩
 | o::r,acc=>by
  obtain ⟨h1,h2⟩:=presOf_spec r (acc++[preOf acc o.after.toList])
  simp only [List.length_append,List.length_singleton] at h1 h2
  have h3:(presOf (o::r) acc).take acc.length=acc:=by
   simp only [presOf]
   have:=congrArg (List.take acc.length) h1
   rw [List.take_take] at this
   rw [Nat.min_eq_left (by omega)] at this
   rw [this,List.take_left']
   rfl
  refine ⟨h3,fun j o' ho=>?_⟩
  cases j with
  | zero =>
   simp only [List.getElem?_cons_zero,Option.some.injEq] at ho
   subst ho
   rw [Nat.add_zero,h3]
   simp only [presOf]
   have:=congrArg (fun l=>l[acc.length]?) h1
   simpa using this
  | succ j =>
   have:=h2 j o' (by simpa using ho)
   have e:acc.length+(j+1)=acc.length+1+j:=by omega
   rw [e]
   exact this
def Pre (ops:Array Oper) (j i:Nat):Prop:=hasBit (((presOf ops.toList [])[j]?).getD 0) i=true
theorem pre_spec {ops:Array Oper} {j i:Nat} {o:Oper} (ho:ops[j]?=some o) (h:Pre ops j i):∃e∈o.after,Region.binds .any e=true∧(i=e.on∨Pre ops e.on i):=by
 unfold Pre at h
 have:=(presOf_spec ops.toList []).2 j o (by simpa using ho)
 simp only [List.length_nil,Nat.zero_add] at this
 rw [this] at h
 simp only [Option.getD_some] at h
 obtain ⟨e,h1,h2,h3⟩:=preOf_spec _ _ _ h
 refine ⟨e,by simpa using h1,h2,h3.imp id fun h=>?_⟩
 unfold Pre
 rw [List.getElem?_take] at h
 split at h
 ·exact h
 ·exact (hasBit_zero _ h).elim
theorem backOK_spec:∀(l:List Oper) (i:Nat),backOK i l=true→∀(j:Nat) o,l[j]?=some o→∀e∈o.after,Region.binds .any e=true→e.on < i+j
 | [],i,_,j,o,h=>by simp at h
 | o::r,i,h,j,o',ho=>by
  simp only [backOK,Bool.and_eq_true,List.all_eq_true] at h
  intro e he hb
  cases j with
  | zero =>
   simp only [List.getElem?_cons_zero,Option.some.injEq] at ho
   subst ho
   have:=h.1 e (by simpa using he)
   simp only [hb,Bool.not_true,Bool.false_or] at this
   have:=Nat.le_of_ble_eq_true this
   omega
  | succ j =>
   have:=backOK_spec r (i+1) h.2 j o' (by simpa using ho) e he hb
   omega
theorem memN_iff (l:List Nat) (k:Nat):memN l k=true↔k∈l:=by
 induction l with
 | nil=>simp [memN]
 | cons x r ih =>
  simp only [memN,Bool.or_eq_true,ih,List.mem_cons]
  exact ⟨fun h=>h.imp (fun h=>(Nat.eq_of_beq_eq_true h).symm) id,fun h=>h.imp (fun h=>by rw [h];simp) id⟩
theorem drawOK_spec {ops:Array Oper} {ws:List Nat} (h:drawOK ops ws=true) :
  (∀(j:Nat) o,ops[j]?=some o→∀e∈o.after,Region.binds .any e=true→e.on < j) ∧
  ∀(i j:Nat) oi oj,i < j→ops[i]?=some oi→ops[j]?=some oj→Pre ops j i∨(memN ws i=false∧memN ws j=false∧(∀d,oi.dst=some d→d ∉ tmpsOf ops oj)∧∀d,oj.dst=some d→d ∉ tmpsOf ops oi):=by
 simp only [drawOK,Bool.and_eq_true,List.all_eq_true,List.mem_range] at h
 refine ⟨fun j o ho e he hb=>?_,fun i j oi oj hij hi hj=>?_⟩
 ·have:=backOK_spec ops.toList 0 h.1 j o (by simpa using ho) e he hb
  omega
 ·have hlt:j < ops.size:=by
   rcases Nat.lt_or_ge j ops.size with h | h
   ·exact h
   ·simp [Array.getElem?_eq_none h] at hj
  have:=h.2 j hlt i hij
  simp only [hi,hj,Bool.or_eq_true,Bool.and_eq_true,Bool.not_eq_true'] at this
  rcases this with h | ⟨⟨⟨h1,h2⟩,h3⟩,h4⟩
  ·exact .inl h
  ·refine .inr ⟨h1,h2,fun d hd=>?_,fun d hd=>?_⟩
   ·rw [hd] at h3
    simp only [Bool.not_eq_true'] at h3
    intro hm
    rw [←memN_iff] at hm
    rw [h3] at hm;simp at hm
   ·rw [hd] at h4
    simp only [Bool.not_eq_true'] at h4
    intro hm
    rw [←memN_iff] at hm
    rw [h4] at hm;simp at hm
theorem ext_getT:∀{l l':List (D α)},l.length=l'.length→(∀t,getT l t=getT l' t)→l=l'
 | [],[],_,_=>rfl
 | [],_::_,h,_=>by simp at h
 | _::_,[],h,_=>by simp at h
 | d::r,d'::r',h,ht=>by
  have h0:=ht 0
  simp only [getT] at h0
  subst h0
  rw [ext_getT (l:=r) (l':=r') (by simpa using h) fun t=>by simpa [getT] using ht (t+1)]
section
variable {X:Ctx α} {ops:Array Oper} {T:Nat→List (D α)} {H:Nat→Obs α} {W:Nat→Bool}
 (hst:∀(i:Nat) o,ops[i]?=some o→AStep X ops i o (T i) (H i) (T (i+1)) (H (i+1)) (W i))
 (hdis:∀(i j:Nat) s,slotOf ops i=some s→slotOf ops j=some s→i=j)
theorem AStep.quiet_inv {i:Nat} {o:Oper} {tm tm1:List (D α)} {hs hs1:Obs α} (h:AStep X ops i o tm hs tm1 hs1 false):hs1=hs∧∃v,tm1=putT tm o.dst v:=by
 cases h with
 | quiet=>exact ⟨rfl,_,rfl⟩
 | on=>exact ⟨rfl,_,rfl⟩
 | off=>exact ⟨rfl,_,rfl⟩
include hst in
theorem quiet_run (b:Nat):∀(m:Nat),b+m≤ops.size→(∀i,b≤i→i < b+m→W i=false) →
  H (b+m)=H b∧(T (b+m)).length=(T b).length∧∀t,(∀i,b≤i→i < b+m→slotOf ops i≠some t)→getT (T (b+m)) t=getT (T b) t
 | 0,_,_=>⟨rfl,rfl,fun _ _=>rfl⟩
 | m+1,hm,hW=>by
  obtain ⟨h1,h2,h3⟩:=quiet_run b m (by omega) fun i hb hi=>hW i hb (by omega)
  have hlt:b+m < ops.size:=by omega
  have ho:ops[b+m]?=some ops[b+m]:=by simp [hlt]
  have st:=hst _ _ ho
  rw [hW (b+m) (by omega) (by omega)] at st
  obtain ⟨h4,v,h5⟩:=st.quiet_inv
  have e:b+(m+1)=b+m+1:=by omega
  rw [e]
  refine ⟨h4.trans h1,by rw [h5,putT_length];exact h2,fun t ht=>?_⟩
  rw [h5,getT_put,if_neg (fun h=>ht (b+m) (by omega) (by omega) (by rw [slot_dst ho];exact h.1))]
  exact h3 t fun i hb hi=>ht i hb (by omega)
include hst hdis in
theorem quiet_slot {b c i t:Nat} (hc:c≤ops.size) (hW:∀i,b≤i→i < c→W i=false) (hb:b≤i) (hi:i < c) (hs:slotOf ops i=some t):getT (T c) t=getT (T (i+1)) t:=by
 obtain ⟨m,rfl⟩:=Nat.exists_eq_add_of_le (show i+1≤c by omega)
 refine (quiet_run hst (i+1) m hc fun k hk hk'=>hW k (by omega) hk').2.2 t fun k hk hk' hs'=>?_
 have:=hdis i k t hs hs'
 omega
structure AInv (ops:Array Oper) (T:Nat→List (D α)) (H:Nat→Obs α) (W:Nat→Bool) (L:Nat→Prop) (b:Nat) (tm:List (D α)) (hs:Obs α):Prop where
 le:b≤ops.size
 pre:∀i,i < b→L i
 quiet:∀i,b≤i→L i→W i=false∧i < ops.size
 hs:hs=H b
 len:tm.length=(T b).length
 done:∀i t,b≤i→L i→slotOf ops i=some t→getT tm t=getT (T (i+1)) t
 rest:∀t,(∀i,b≤i→L i→slotOf ops i≠some t)→getT tm t=getT (T b) t
theorem evK_congr {tm tm':List (D α)} {x:Operand} (h:∀t,x=.tmp t→getT tm' t=getT tm t) (ks:List (Nat×Bool)):evK X tm' ks x=evK X tm ks x:=by
 cases x with
 | tmp t=>simp only [evK];rw [h t rfl]
 | _=>rfl
theorem guardD_congr {tm tm':List (D α)} {i:Nat} {o:Oper} (h:∀t∈tmpsOf ops o,getT tm' t=getT tm t):guardD ops i tm' o=guardD ops i tm o:=by
 unfold guardD
 split
 ·rfl
 ·rename_i j want hg
  cases hs:slotOf ops j with
  | none=>rfl
  | some s =>
   simp only
   rw [h s (by simp [tmpsOf,hg,hs])]
theorem evalOp_congr {tm tm':List (D α)} {hs:Obs α} {o:Oper} {ks:List (Nat×Bool)} (h:∀t∈tmpsOf ops o,getT tm' t=getT tm t) (hc:(evalOp X tm hs ks o).ch=none):evalOp X tm' hs ks o=evalOp X tm hs ks o:=by
 rcases evalOp_on (X:=X) (tm:=tm) (hs:=hs) o ks with ⟨ns,hs',h'⟩ | ⟨_,h'⟩
 ·rw [hc] at h';simp at h'
 ·refine h' tm' fun x hx ks'=>evK_congr (fun t ht=>h t ?_) ks'
  subst ht
  simp only [tmpsOf,List.mem_append,List.mem_filterMap]
  exact .inl ⟨.tmp t,by simpa using hx,rfl⟩
theorem AStep.transfer {i:Nat} {o:Oper} {tm tm' tm1:List (D α)} {hs hs1:Obs α} (h:AStep X ops i o tm hs tm1 hs1 false) (hag:∀t∈tmpsOf ops o,getT tm' t=getT tm t) :
  ∃v,tm1=putT tm o.dst v∧AStep X ops i o tm' hs (putT tm' o.dst v) hs false:=by
 cases h with
 | quiet q hq hc hok =>
  have he:evalOp X tm' hs q.1 o=evalOp X tm hs q.1 o:=evalOp_congr hag hc
  refine ⟨_,rfl,?_⟩
  rw [←he] at hc hok ⊢
  exact .quiet q (by rw [guardD_congr hag];exact hq) hc hok
 | on q hq hc h2 hok =>
  have he:evalOp X tm' hs q.1 o=evalOp X tm hs q.1 o:=evalOp_congr hag hc
  refine ⟨_,rfl,?_⟩
  rw [←he] at hc hok ⊢
  exact .on q (by rw [guardD_congr hag];exact hq) hc h2 hok
 | off q hq h2=>exact ⟨_,rfl,.off q (by rw [guardD_congr hag];exact hq) h2 false⟩
include hst hdis in
theorem AInv.step {ws:List Nat} (hW:∀i,i < ops.size→W i=true→memN ws i=true) (hd:drawOK ops ws=true) {L:Nat→Prop} {b:Nat} {tm:List (D α)} {hs:Obs α} (hI:AInv ops T H W L b tm hs)
  (hdown:∀j,L j→∀i,Pre ops j i→L i) {i:Nat} {o:Oper} (ho:ops[i]?=some o) (hiL:¬ L i) (hpre:∀j,Pre ops i j→L j) :
  ∃b' tm1 hs1,AStep X ops i o tm hs tm1 hs1 (W i)∧AInv ops T H W (fun j=>L j∨j=i) b' tm1 hs1∧∀j want,o.guard=some (j,want)→j < i→(slotOf ops j).isSome=true→L j:=by
 obtain ⟨-,hpair⟩:=drawOK_spec hd
 have hin:i < ops.size:=by
  rcases Nat.lt_or_ge i ops.size with h | h
  ·exact h
  ·simp [Array.getElem?_eq_none h] at ho
 have hbi:b≤i:=by
  rcases Nat.lt_or_ge i b with h | h
  ·exact absurd (hI.pre i h) hiL
  ·exact h
 have hget:∀j,j < ops.size→∃oj,ops[j]?=some oj:=fun j hj=>⟨ops[j],by simp [hj]⟩
 have hguard:∀j want,o.guard=some (j,want)→j < i→(slotOf ops j).isSome=true→L j:=by
  intro j want hg hj hsl
  obtain ⟨oj,hoj⟩:=hget j (by omega)
  obtain ⟨s,hs'⟩:=Option.isSome_iff_exists.1 hsl
  rcases hpair j i oj o hj hoj ho with h | ⟨_,_,h,_⟩
  ·exact hpre j h
  ·refine absurd ?_ (h s (by rw [←slot_dst hoj];exact hs'))
   simp [tmpsOf,hg,hs']
 have hWb:∀j,b≤j→j < i→W j=false:=by
  intro j hb hj
  cases hw:W j with
  | false=>rfl
  | true =>
   obtain ⟨oj,hoj⟩:=hget j (by omega)
   have hm:=hW j (by omega) hw
   rcases hpair j i oj o hj hoj ho with h | ⟨h,_⟩
   ·have:=(hI.quiet j hb (hpre j h)).1
    rw [hw] at this;exact this
   ·rw [hm] at h;simp at h
 obtain ⟨m,hm⟩:=Nat.exists_eq_add_of_le hbi
 obtain ⟨hH,hlen,hrest⟩:=quiet_run hst b m (by omega) (fun j hj hj'=>hWb j hj (by omega))
 rw [←hm] at hH hlen hrest
 cases hWi:W i with
 | true =>
  have hmi:=hW i hin hWi
  have hall:∀j,j < i→L j:=by
   intro j hj
   obtain ⟨oj,hoj⟩:=hget j (by omega)
   rcases hpair j i oj o hj hoj ho with h | ⟨_,h,_⟩
   ·exact hpre j h
   ·rw [hmi] at h;simp at h
  have hnone:∀j,i < j→¬ L j:=by
   intro j hj hL
   rcases Nat.lt_or_ge j ops.size with hjn | hjn
   ·obtain ⟨oj,hoj⟩:=hget j hjn
    rcases hpair i j o oj hj ho hoj with h | ⟨h,_⟩
    ·exact hiL (hdown j hL i h)
    ·rw [hmi] at h;simp at h
   ·have:=(hI.quiet j (by omega) hL).2
    omega
  have htm:tm=T i:=by
   refine ext_getT (hI.len.trans hlen.symm) fun t=>?_
   by_cases h:∃j,b≤j∧j < i∧slotOf ops j=some t
   ·obtain ⟨j,h1,h2,h3⟩:=h
    rw [hI.done j t h1 (hall j h2) h3,quiet_slot hst hdis (by omega) hWb h1 h2 h3]
   ·rw [hrest t fun j h1 h2 h3=>h ⟨j,h1,h2,h3⟩]
    refine hI.rest t fun j h1 h2 h3=>h ⟨j,h1,?_,h3⟩
    rcases Nat.lt_trichotomy j i with h' | h' | h'
    ·exact h'
    ·subst h';exact absurd h2 hiL
    ·exact absurd h2 (hnone j h')
  have hhs:hs=H i:=hI.hs.trans hH.symm
  subst htm hhs
  refine ⟨i+1,T (i+1),H (i+1),by rw [←hWi];exact hst i o ho,⟨by omega,fun j hj=>?_,fun j hj hL=>?_,rfl,rfl,fun j t hj hL=>?_,fun t _=>rfl⟩,hguard⟩
  ·rcases Nat.lt_or_ge j i with h | h
   ·exact .inl (hall j h)
   ·exact .inr (by omega)
  ·rcases hL with h | h
   ·exact absurd h (hnone j (by omega))
   ·omega
  ·rcases hL with h | h
   ·exact absurd h (hnone j (by omega))
   ·omega
 | false =>
  have hag:∀t∈tmpsOf ops o,getT tm t=getT (T i) t:=by
   intro t ht
   by_cases h:∃j,b≤j∧j < i∧slotOf ops j=some t
   ·obtain ⟨j,h1,h2,h3⟩:=h
    obtain ⟨oj,hoj⟩:=hget j (by omega)
    rw [quiet_slot hst hdis (by omega) hWb h1 h2 h3]
    refine hI.done j t h1 ?_ h3
    rcases hpair j i oj o h2 hoj ho with h | ⟨_,_,h,_⟩
    ·exact hpre j h
    ·exact absurd ht (h t (by rw [←slot_dst hoj];exact h3))
   ·rw [hrest t fun j h1 h2 h3=>h ⟨j,h1,h2,h3⟩]
    refine hI.rest t fun j h1 h2 h3=>?_
    rcases Nat.lt_trichotomy j i with h' | h' | h'
    ·exact h ⟨j,h1,h',h3⟩
    ·subst h';exact hiL h2
    ·obtain ⟨oj,hoj⟩:=hget j (hI.quiet j h1 h2).2
     rcases hpair i j o oj h' ho hoj with h'' | ⟨_,_,_,h''⟩
     ·exact hiL (hdown j h2 i h'')
     ·exact h'' t (by rw [←slot_dst hoj];exact h3) ht
  have st:=hst i o ho
  rw [hWi] at st
  have hhs:hs=H i:=hI.hs.trans hH.symm
  generalize hT1:T (i+1)=T1 at st
  generalize hH1:H (i+1)=H1 at st
  obtain ⟨v,rfl,st'⟩:=st.transfer hag
  rw [←hhs] at st'
  refine ⟨b,_,hs,st',⟨hI.le,fun j hj=>.inl (hI.pre j hj),fun j hj hL=>?_,hI.hs,by rw [putT_length];exact hI.len,fun j t hj hL hsl=>?_,fun t ht=>?_⟩,hguard⟩
  ·rcases hL with h | rfl
   ·exact hI.quiet j hj h
   ·exact ⟨hWi,hin⟩
  ·rw [getT_put]
   rcases hL with h | rfl
   ·rw [if_neg,hI.done j t hj h hsl]
    rintro ⟨h1,_⟩
    have:=hdis i j t (by rw [slot_dst ho];exact h1) hsl
    subst this
    exact hiL h
   ·rw [hT1,getT_put,hI.len,hlen]
    rw [slot_dst ho] at hsl
    by_cases h:t < (T b).length
    ·rw [if_pos ⟨hsl,h⟩,if_pos ⟨hsl,h⟩]
    ·rw [if_neg (fun h'=>h h'.2),if_neg (fun h'=>h h'.2),getT_out _ _ (by have:=hI.len;omega),getT_out _ _ (by omega)]
  ·rw [getT_put,if_neg,hI.rest t fun j h1 h2 h3=>ht j h1 (.inl h2) h3]
   rintro ⟨h1,_⟩
   exact ht i hbi (.inr rfl) (by rw [slot_dst ho];exact h1)
include hst hdis in
theorem AInv.fin {L:Nat→Prop} {b:Nat} {tm:List (D α)} {hs:Obs α} (hI:AInv ops T H W L b tm hs) (hall:∀i,i < ops.size→L i):tm=T ops.size∧hs=H ops.size:=by
 have hWq:∀i,b≤i→i < ops.size→W i=false:=fun i hb hi=>(hI.quiet i hb (hall i hi)).1
 obtain ⟨m,hm⟩:=Nat.exists_eq_add_of_le hI.le
 obtain ⟨hH,hlen,hrest⟩:=quiet_run hst b m (by omega) (fun j hj hj'=>hWq j hj (by omega))
 rw [←hm] at hH hlen hrest
 refine ⟨ext_getT (hI.len.trans hlen.symm) fun t=>?_,hI.hs.trans hH.symm⟩
 by_cases h:∃j,b≤j∧j < ops.size∧slotOf ops j=some t
 ·obtain ⟨j,h1,h2,h3⟩:=h
  rw [hI.done j t h1 (hall j h2) h3,quiet_slot hst hdis (Nat.le_refl _) hWq h1 h2 h3]
 ·rw [hrest t fun j h1 h2 h3=>h ⟨j,h1,h2,h3⟩]
  exact hI.rest t fun j h1 h2 h3=>h ⟨j,h1,(hI.quiet j h1 h2).2,h3⟩
theorem pure_hs {tm:List (D α)} {hs:Obs α} {o:Oper} (h:pureOp o=true) (ks:List (Nat×Bool)):(∀hs',evalOp X tm hs' ks o=evalOp X tm hs ks o)∧(evalOp X tm hs ks o).ch=none:=by
 refine ⟨fun hs'=>?_,?_⟩
 ·obtain ⟨dst,op,type,pos,after,guard⟩:=o
  cases op<;>first | (simp [pureOp] at h;done) | rfl | (rename_i fn _ _;cases fn<;>rfl)
 ·rcases evalOp_on (X:=X) (tm:=tm) (hs:=hs) o ks with ⟨ns,hs',h'⟩ | ⟨h',_⟩
  ·exfalso
   obtain ⟨dst,op,type,pos,after,guard⟩:=o
   cases op<;>try (simp [pureOp] at h;done)
   case move x=>simp [evalOp,Res.v] at h'
   case assign x=>simp [evalOp,Res.v] at h'
   case pick c x y =>
    simp only [evalOp] at h'
    split at h'
    ·split at h'<;>simp [Res.v] at h'
    ·simp [Res.v] at h'
    ·simp [Res.no] at h'
   case build t ps=>rw [show evalOp X tm hs ks _=buildD X.P t _ from rfl,buildD_ch] at h';simp at h'
   case nilCheck x =>
    simp only [evalOp] at h'
    split at h'<;>simp [Res.v,Res.no,Res.if] at h'
   case binOp op t x y ty=>rw [show evalOp X tm hs ks _=binN X op t _ _ _ _ from rfl,binN_ch] at h';simp at h'
   case unOp op t x=>rw [show evalOp X tm hs ks _=unD op _ from rfl,unD_ch] at h';simp at h'
   case makeFunc fn first cap =>
    cases fn with
    | func f =>
     simp only [evalOp] at h'
     revert h'
     cases Nat.blt f mvB<;>cases Nat.beq first.size 0<;>cases Nat.beq cap.size 0<;>simp [Res.v,Res.no]
    | _=>simp [evalOp,Res.no] at h'
   case fieldAddr t x f=>rw [show evalOp X tm hs ks _=fieldAddrD X.P t _ f from rfl,fieldAddrD_ch] at h';simp at h'
   case field t x f=>rw [show evalOp X tm hs ks _=fieldD X.P t _ f from rfl,fieldD_ch] at h';simp at h'
   case index t x i=>rw [show evalOp X tm hs ks _=indexD X.P t _ _ from rfl,indexD_ch] at h';simp at h'
   case extract x i =>
    simp only [evalOp] at h'
    split at h'
    ·simp [Res.o_ch] at h'
    ·simp [Res.no] at h'
  ·exact h'
theorem memOnly_ch {tm:List (D α)} {hs:Obs α} {o:Oper} (h:memOnly X.noM o=true) (ks:List (Nat×Bool)) {tm':List (D α)} (hag:∀x∈o.op.operands,∀ks,evK X tm' ks x=evK X tm ks x) {t1:List (D α)} {h1:Obs α}
  (hc:(evalOp X tm hs ks o).ch=some (t1,h1)):t1=tm∧(evalOp X tm' hs ks o).ch=some (tm',h1)∧(evalOp X tm' hs ks o).ok=(evalOp X tm hs ks o).ok∧(evalOp X tm' hs ks o).d=(evalOp X tm hs ks o).d:=by
 obtain ⟨dst,op,type,pos,after,guard⟩:=o
 have hps:∀(ps:Array (Nat×Operand)),(∀x∈(ps.toList.map (·.2)).toArray,∀ks,evK X tm' ks x=evK X tm ks x)→(ps.toList.map fun x=>(x.1,evK X tm' ks x.2))=ps.toList.map fun x=>(x.1,evK X tm ks x.2):=by
  intro ps h
  refine List.map_congr_left fun p hp=>?_
  rw [h p.2 (by simp;exact ⟨p.1,by simpa using hp⟩)]
 have has:∀(xs:Array Operand),(∀x∈xs,∀ks,evK X tm' ks x=evK X tm ks x)→xs.toList.map (evK X tm' ks)=xs.toList.map (evK X tm ks) :=
  fun xs h=>List.map_congr_left fun p hp=>h p (by simpa using hp) ks
 have hop:∀(l:Option Operand),(∀x∈l.toArray,∀ks,evK X tm' ks x=evK X tm ks x)→l.map (evK X tm' ks)=l.map (evK X tm ks):=by
  intro l h
  cases l with
  | none=>rfl
  | some x=>simp only [Option.map_some];rw [h x (by simp) ks]
 cases op<;>try (simp [memOnly] at h;done)
 case buildSlice t n ps =>
  simp only [evalOp] at hc ⊢
  rw [hps ps hag]
  generalize (ps.toList.map fun x=>(x.1,evK X tm ks x.2))=l at hc ⊢
  unfold buildSliceD at hc ⊢
  repeat' split at hc
  all_goals first | (simp [Res.no] at hc;done) | skip
  simp only [*]
  revert hc
  generalize isNil _=b
  cases b
  ·intro hc;simp only [cond_false,Option.some.injEq,Prod.mk.injEq] at hc ⊢;obtain ⟨rfl,rfl⟩:=hc;simp
  ·intro hc;simp at hc
 case store t x y =>
  simp only [evalOp] at hc ⊢
  rw [hag x (by simp [Op.operands]),hag y (by simp [Op.operands])]
  generalize evK X tm ks x=dx at hc ⊢
  generalize evK X tm ks y=dy at hc ⊢
  unfold storeD at hc ⊢
  repeat' split at hc
  all_goals first | (simp [Res.no] at hc;done) | skip
  all_goals (simp only [Option.some.injEq,Prod.mk.injEq] at hc;obtain ⟨rfl,rfl⟩:=hc;simp only [*];exact ⟨trivial,trivial,trivial,trivial⟩)
 case mapUpdate t m y z =>
  simp only [evalOp] at hc ⊢
  rw [hag m (by simp [Op.operands]),hag y (by simp [Op.operands]),hag z (by simp [Op.operands])]
  generalize evK X tm ks m=dm at hc ⊢
  generalize evK X tm ks y=dx at hc ⊢
  generalize evK X tm ks z=dy at hc ⊢
  unfold mapUpdateD at hc ⊢
  repeat' split at hc
  all_goals first | (simp [Res.no] at hc;done) | skip
  all_goals (simp only [Option.some.injEq,Prod.mk.injEq] at hc;obtain ⟨rfl,rfl⟩:=hc;simp only [*];exact ⟨trivial,trivial,trivial,trivial⟩)
 case insert t m y z =>
  simp only [evalOp] at hc ⊢
  rw [hag m (by simp [Op.operands]),hag y (by simp [Op.operands]),hag z (by simp [Op.operands])]
  generalize evK X tm ks m=dm at hc ⊢
  generalize evK X tm ks y=dx at hc ⊢
  generalize evK X tm ks z=dy at hc ⊢
  unfold mapUpdateD at hc ⊢
  repeat' split at hc
  all_goals first | (simp [Res.no] at hc;done) | skip
  all_goals (simp only [Option.some.injEq,Prod.mk.injEq] at hc;obtain ⟨rfl,rfl⟩:=hc;simp only [*];exact ⟨trivial,trivial,trivial,trivial⟩)
 case slice t x l hh m =>
  simp only [evalOp] at hc ⊢
  rw [hag x (by simp [Op.operands]),hop l (fun x hx=>hag x (by simp [Op.operands] at hx ⊢;simp [hx])),hop hh (fun x hx=>hag x (by simp [Op.operands] at hx ⊢;simp [hx])),hop m (fun x hx=>hag x (by simp [Op.operands] at hx ⊢;simp [hx]))]
  generalize evK X tm ks x=dx at hc ⊢
  generalize l.map (evK X tm ks)=dl at hc ⊢
  generalize hh.map (evK X tm ks)=dh at hc ⊢
  generalize m.map (evK X tm ks)=dm at hc ⊢
  unfold sliceD at hc ⊢
  repeat' split at hc
  all_goals first | (simp [Res.no,Res.if] at hc;done) | skip
  all_goals (simp only [Option.some.injEq,Prod.mk.injEq] at hc;obtain ⟨rfl,rfl⟩:=hc;simp only [*];exact ⟨trivial,trivial,trivial,trivial⟩)
 case call c =>
  obtain ⟨callee,args,argTypes⟩:=c
  cases callee with
  | value f =>
   simp only [evalOp] at hc ⊢
   rw [hag f (by simp [Op.operands,Call.operands]),has args (fun x hx=>hag x (by simp [Op.operands,Call.operands,hx]))]
   cases hf:evK X tm ks f with
   | fn g cs =>
    rw [hf] at hc
    simp only at hc ⊢
    generalize capA g cs (args.toList.map (evK X tm ks))=l at hc ⊢
    have hnm:mOf X (fnId g)=false:=by
     have h:X.noM=true:=h
     simp [mOf,h]
    unfold callD at hc ⊢
    simp only [hnm,cond_false] at hc ⊢
    simp only [Bool.cond_eq_ite] at hc ⊢
    repeat' split at hc
    all_goals first | (simp [Res.no] at hc;done) | skip
    all_goals (simp only [Option.some.injEq,Prod.mk.injEq] at hc;obtain ⟨rfl,rfl⟩:=hc;simp [*])
   | _=>rw [hf] at hc;simp [Res.no] at hc
  | _=>simp [memOnly] at h
theorem drawB_spec {noM:Bool} {ws:List Nat} (h:drawB noM ops ws=true) :
  (∀(j:Nat) o,ops[j]?=some o→∀e∈o.after,Region.binds .any e=true→e.on < j) ∧
  (∀(i:Nat) o,ops[i]?=some o→memN ws i=true→memOnly noM o=true∧pureOp o=false) ∧
  ∀(i j:Nat) oi oj,i < j→ops[i]?=some oi→ops[j]?=some oj→Pre ops j i∨((pureOp oi=true∨pureOp oj=true∨(memN ws i=false∧memN ws j=false))∧(∀d,oi.dst=some d→d ∉ tmpsOf ops oj)∧∀d,oj.dst=some d→d ∉ tmpsOf ops oi):=by
 simp only [drawB,Bool.and_eq_true,List.all_eq_true,List.mem_range] at h
 obtain ⟨⟨h0,h1⟩,h2⟩:=h
 have hlt:∀{j:Nat} {o:Oper},ops[j]?=some o→j < ops.size:=by
  intro j o hj
  rcases Nat.lt_or_ge j ops.size with h | h
  ·exact h
  ·simp [Array.getElem?_eq_none h] at hj
 refine ⟨fun j o ho e he hb=>?_,fun i o ho hw=>?_,fun i j oi oj hij hi hj=>?_⟩
 ·have:=backOK_spec ops.toList 0 h0 j o (by simpa using ho) e he hb
  omega
 ·have:=h1 i (hlt ho)
  simp only [ho,hw,Bool.not_true,Bool.false_or,Bool.and_eq_true,Bool.not_eq_true'] at this
  exact this
 ·have:=h2 j (hlt hj) i hij
  simp only [hi,hj,Bool.or_eq_true,Bool.and_eq_true,Bool.not_eq_true'] at this
  rcases this with h | ⟨⟨h1,h3⟩,h4⟩
  ·exact .inl h
  ·refine .inr ⟨?_,fun d hd=>?_,fun d hd=>?_⟩
   ·rcases h1 with (h1 | h1) | h1
    ·exact .inl h1
    ·exact .inr (.inl h1)
    ·exact .inr (.inr h1)
   ·rw [hd] at h3
    simp only [Bool.not_eq_true'] at h3
    intro hm
    rw [←memN_iff] at hm
    rw [h3] at hm;simp at hm
   ·rw [hd] at h4
    simp only [Bool.not_eq_true'] at h4
    intro hm
    rw [←memN_iff] at hm
    rw [h4] at hm;simp at hm
theorem AStep.move {i:Nat} {o:Oper} {tm tm' tm1:List (D α)} {hs hs1:Obs α} {W:Bool} (h:AStep X ops i o tm hs tm1 hs1 W) (hm:W=true→memOnly X.noM o=true) (hag:∀t∈tmpsOf ops o,getT tm' t=getT tm t) :
  ∃v,tm1=putT tm o.dst v∧AStep X ops i o tm' hs (putT tm' o.dst v) hs1 W:=by
 cases W with
 | false =>
  obtain ⟨v,h1,h2⟩:=h.transfer hag
  have:=h.quiet_inv.1
  subst this
  exact ⟨v,h1,h2⟩
 | true =>
  have hm:=hm rfl
  have hopd:∀x∈o.op.operands,∀ks,evK X tm' ks x=evK X tm ks x:=by
   intro x hx ks'
   refine evK_congr (fun t ht=>hag t ?_) ks'
   subst ht
   simp only [tmpsOf,List.mem_append,List.mem_filterMap]
   exact .inl ⟨.tmp t,by simpa using hx,rfl⟩
  cases h with
  | write q hq t1 h1 hc h2 hok =>
   obtain ⟨rfl,e1,e2,e3⟩:=memOnly_ch hm q.1 hopd hc
   refine ⟨_,rfl,?_⟩
   rw [←e3]
   exact .write q (by rw [guardD_congr hag];exact hq) tm' hs1 e1 h2 (by rw [e2];exact hok)
  | off q hq h2=>exact ⟨_,rfl,.off q (by rw [guardD_congr hag];exact hq) h2 true⟩
structure BInv (ops:Array Oper) (T:Nat→List (D α)) (H:Nat→Obs α) (W:Nat→Bool) (L:Nat→Prop) (b:Nat) (tm:List (D α)) (hs:Obs α):Prop where
 le:b≤ops.size
 pre:∀i o,i < b→ops[i]?=some o→pureOp o=false→L i
 quiet:∀i,b≤i→L i→W i=false
 hs:hs=H b
 len:tm.length=(T 0).length
 done:∀i t,L i→slotOf ops i=some t→getT tm t=getT (T (i+1)) t
 rest:∀t,(∀i,L i→slotOf ops i≠some t)→getT tm t=getT (T 0) t
include hst in
theorem put_run (hm:∀i o,ops[i]?=some o→W i=true→memOnly X.noM o=true):∀(c:Nat),c≤ops.size→(T c).length=(T 0).length∧(∀t,(∀i,i < c→slotOf ops i≠some t)→getT (T c) t=getT (T 0) t) ∧
  ∀b t,b≤c→(∀i,b≤i→i < c→slotOf ops i≠some t)→getT (T c) t=getT (T b) t
 | 0,_=>⟨rfl,fun _ _=>rfl,fun b t hb _=>by rw [show b=0 by omega]⟩
 | c+1,hc=>by
  obtain ⟨h1,h2,h3⟩:=put_run hm c (by omega)
  have hlt:c < ops.size:=by omega
  have ho:ops[c]?=some ops[c]:=by simp [hlt]
  obtain ⟨v,h5,_⟩:=(hst _ _ ho).move (tm':=T c) (hm c _ ho) (fun _ _=>rfl)
  have hne:∀t,slotOf ops c≠some t→getT (T (c+1)) t=getT (T c) t:=by
   intro t ht
   rw [h5,getT_put,if_neg (fun h=>ht (by rw [slot_dst ho];exact h.1))]
  refine ⟨by rw [h5,putT_length];exact h1,fun t ht=>?_,fun b t hb ht=>?_⟩
  ·rw [hne t (ht c (by omega)),h2 t fun i hi=>ht i (by omega)]
  ·rcases Nat.lt_or_ge b (c+1) with h | h
   ·rw [hne t (ht c (by omega) (by omega)),h3 b t (by omega) fun i hi hi'=>ht i hi (by omega)]
   ·rw [show b=c+1 by omega]
include hst in
theorem still_run (b:Nat):∀(m:Nat),b+m≤ops.size→(∀i,b≤i→i < b+m→W i=false)→H (b+m)=H b:=fun m hm hW=>(quiet_run hst b m hm hW).1
include hst hdis in
theorem BInv.step {ws:List Nat} (hW:∀i,i < ops.size→W i=true→memN ws i=true) (hd:drawB X.noM ops ws=true) {L:Nat→Prop} {b:Nat} {tm:List (D α)} {hs:Obs α} (hI:BInv ops T H W L b tm hs)
  (hdown:∀j,L j→∀i,Pre ops j i→L i) (hLn:∀j,L j→j < ops.size) {i:Nat} {o:Oper} (ho:ops[i]?=some o) (hiL:¬ L i) (hpre:∀j,Pre ops i j→L j) :
  ∃b' tm1 hs1,AStep X ops i o tm hs tm1 hs1 (W i)∧BInv ops T H W (fun j=>L j∨j=i) b' tm1 hs1∧∀j want,o.guard=some (j,want)→j < i→(slotOf ops j).isSome=true→L j:=by
 obtain ⟨-,hmem,hpair⟩:=drawB_spec hd
 have hin:i < ops.size:=by
  rcases Nat.lt_or_ge i ops.size with h | h
  ·exact h
  ·simp [Array.getElem?_eq_none h] at ho
 have hget:∀j,j < ops.size→∃oj,ops[j]?=some oj:=fun j hj=>⟨ops[j],by simp [hj]⟩
 have hm:∀i o,ops[i]?=some o→W i=true→memOnly X.noM o=true:=fun i o ho hw=>(hmem i o ho (hW i (by
  rcases Nat.lt_or_ge i ops.size with h | h
  ·exact h
  ·simp [Array.getElem?_eq_none h] at ho) hw)).1
 have hguard:∀j want,o.guard=some (j,want)→j < i→(slotOf ops j).isSome=true→L j:=by
  intro j want hg hj hsl
  obtain ⟨oj,hoj⟩:=hget j (by omega)
  obtain ⟨s,hs'⟩:=Option.isSome_iff_exists.1 hsl
  rcases hpair j i oj o hj hoj ho with h | ⟨_,h,_⟩
  ·exact hpre j h
  ·refine absurd ?_ (h s (by rw [←slot_dst hoj];exact hs'))
   simp [tmpsOf,hg,hs']
 obtain ⟨r1,r2,r3⟩:=put_run hst hm i (by omega)
 have hag:∀t∈tmpsOf ops o,getT tm t=getT (T i) t:=by
  intro t ht
  by_cases h:∃j,j < i∧slotOf ops j=some t
  ·obtain ⟨j,h1,h2⟩:=h
   obtain ⟨oj,hoj⟩:=hget j (by omega)
   have hL:L j:=by
    rcases hpair j i oj o h1 hoj ho with h | ⟨_,h,_⟩
    ·exact hpre j h
    ·exact absurd ht (h t (by rw [←slot_dst hoj];exact h2))
   rw [hI.done j t hL h2,r3 (j+1) t h1 fun k hk hk' hs'=>by have:=hdis j k t h2 hs';omega]
  ·rw [r2 t fun j hj hs'=>h ⟨j,hj,hs'⟩]
   refine hI.rest t fun j hL hs'=>?_
   rcases Nat.lt_trichotomy j i with h' | h' | h'
   ·exact h ⟨j,h',hs'⟩
   ·subst h';exact hiL hL
   ·obtain ⟨oj,hoj⟩:=hget j (hLn j hL)
    rcases hpair i j o oj h' ho hoj with h'' | ⟨_,_,h''⟩
    ·exact hiL (hdown j hL i h'')
    ·exact h'' t (by rw [←slot_dst hoj];exact hs') ht
 have hslots:∀v,T (i+1)=putT (T i) o.dst v→∀(b':Nat),(∀j t,(L j∨j=i)→slotOf ops j=some t→getT (putT tm o.dst v) t=getT (T (j+1)) t) ∧
   ∀t,(∀j,(L j∨j=i)→slotOf ops j≠some t)→getT (putT tm o.dst v) t=getT (T 0) t:=by
  intro v hv b'
  refine ⟨fun j t hL hsl=>?_,fun t ht=>?_⟩
  ·rw [getT_put]
   rcases hL with h | rfl
   ·rw [if_neg,hI.done j t h hsl]
    rintro ⟨h1,_⟩
    have:=hdis i j t (by rw [slot_dst ho];exact h1) hsl
    subst this
    exact hiL h
   ·rw [hv,getT_put,hI.len,r1]
    rw [slot_dst ho] at hsl
    by_cases h:t < (T 0).length
    ·rw [if_pos ⟨hsl,h⟩,if_pos ⟨hsl,h⟩]
    ·rw [if_neg (fun h'=>h h'.2),if_neg (fun h'=>h h'.2),getT_out _ _ (by have:=hI.len;omega),getT_out _ _ (by omega)]
  ·rw [getT_put,if_neg,hI.rest t fun j h2 h3=>ht j (.inl h2) h3]
   rintro ⟨h1,_⟩
   exact ht i (.inr rfl) (by rw [slot_dst ho];exact h1)
 have st:=hst i o ho
 by_cases hp:pureOp o=true
 ·have hWi:W i=false:=by
   cases hw:W i with
   | false=>rfl
   | true=>have:=(hmem i o ho (hW i hin hw)).2;rw [hp] at this;simp at this
  rw [hWi] at st ⊢
  obtain ⟨v,hv,st'⟩:=st.move (by simp) hag
  have st'':AStep X ops i o tm hs (putT tm o.dst v) hs false:=by
   have key:∀{t1:List (D α)} {h1:Obs α},AStep X ops i o tm (H i) t1 h1 false→AStep X ops i o tm hs t1 hs false:=by
    intro t1 h1 h
    cases h with
    | quiet q hq hc hok =>
     have:=(pure_hs (X:=X) (tm:=tm) (hs:=H i) hp q.1).1 hs
     rw [←this] at hc hok ⊢
     exact .quiet q hq hc hok
    | on q hq hc h2 hok =>
     have:=(pure_hs (X:=X) (tm:=tm) (hs:=H i) hp q.1).1 hs
     rw [←this] at hc hok ⊢
     exact .on q hq hc h2 hok
    | off q hq h2=>exact .off q hq h2 false
   exact key st'
  refine ⟨b,_,hs,st'',⟨hI.le,fun j oj hj hoj hpj=>.inl (hI.pre j oj hj hoj hpj),fun j hj hL=>?_,hI.hs,by rw [putT_length];exact hI.len,(hslots v hv b).1,(hslots v hv b).2⟩,hguard⟩
  rcases hL with h | rfl
  ·exact hI.quiet j hj h
  ·exact hWi
 ·have hp:pureOp o=false:=by simpa using hp
  have hbi:b≤i:=by
   rcases Nat.lt_or_ge i b with h | h
   ·exact absurd (hI.pre i o h ho hp) hiL
   ·exact h
  have hWb:∀j,b≤j→j < i→W j=false:=by
   intro j hb hj
   cases hw:W j with
   | false=>rfl
   | true =>
    obtain ⟨oj,hoj⟩:=hget j (by omega)
    have hmj:=hW j (by omega) hw
    rcases hpair j i oj o hj hoj ho with h | ⟨h | h | h,_⟩
    ·have:=hI.quiet j hb (hpre j h)
     rw [hw] at this;exact this
    ·have:=(hmem j oj hoj hmj).2;rw [h] at this;simp at this
    ·rw [hp] at h;simp at h
    ·rw [hmj] at h;simp at h
  have hhs:hs=H i:=by
   obtain ⟨m,hm'⟩:=Nat.exists_eq_add_of_le hbi
   rw [hI.hs,hm',still_run hst b m (by omega) (fun j hj hj'=>hWb j hj (by omega))]
  obtain ⟨v,hv,st'⟩:=st.move (hm i o ho) hag
  rw [←hhs] at st'
  cases hWi:W i with
  | false =>
   rw [hWi] at st'
   have h1:=st'.quiet_inv.1
   rw [h1] at st'
   refine ⟨b,_,hs,st',⟨hI.le,fun j oj hj hoj hpj=>.inl (hI.pre j oj hj hoj hpj),fun j hj hL=>?_,hI.hs,by rw [putT_length];exact hI.len,(hslots v hv b).1,(hslots v hv b).2⟩,hguard⟩
   rcases hL with h | rfl
   ·exact hI.quiet j hj h
   ·exact hWi
  | true =>
   rw [hWi] at st'
   have hmi:=hW i hin hWi
   refine ⟨i+1,_,H (i+1),st',⟨by omega,fun j oj hj hoj hpj=>?_,fun j hj hL=>?_,rfl,by rw [putT_length];exact hI.len,(hslots v hv b).1,(hslots v hv b).2⟩,hguard⟩
   ·rcases Nat.lt_or_ge j i with h | h
    ·rcases hpair j i oj o h hoj ho with h' | ⟨h' | h' | h',_⟩
     ·exact .inl (hpre j h')
     ·rw [hpj] at h';simp at h'
     ·rw [hp] at h';simp at h'
     ·rw [hmi] at h';simp at h'
    ·exact .inr (by omega)
   ·rcases hL with h | h
    ·exact hI.quiet j (by omega) h
    ·omega
include hst hdis in
theorem BInv.fin {ws:List Nat} (hW:∀i,i < ops.size→W i=true→memN ws i=true) (hd:drawB X.noM ops ws=true) {L:Nat→Prop} {b:Nat} {tm:List (D α)} {hs:Obs α} (hI:BInv ops T H W L b tm hs) (hall:∀i,i < ops.size→L i) :
  tm=T ops.size∧hs=H ops.size:=by
 obtain ⟨-,hmem,-⟩:=drawB_spec hd
 have hm:∀i o,ops[i]?=some o→W i=true→memOnly X.noM o=true:=fun i o ho hw=>(hmem i o ho (hW i (by
  rcases Nat.lt_or_ge i ops.size with h | h
  ·exact h
  ·simp [Array.getElem?_eq_none h] at ho) hw)).1
 obtain ⟨r1,r2,r3⟩:=put_run hst hm ops.size (Nat.le_refl _)
 have hWq:∀i,b≤i→i < ops.size→W i=false:=fun i hb hi=>hI.quiet i hb (hall i hi)
 obtain ⟨m,hm'⟩:=Nat.exists_eq_add_of_le hI.le
 have hH:=still_run hst b m (by omega) (fun j hj hj'=>hWq j hj (by omega))
 rw [←hm'] at hH
 refine ⟨ext_getT (hI.len.trans r1.symm) fun t=>?_,hI.hs.trans hH.symm⟩
 by_cases h:∃j,j < ops.size∧slotOf ops j=some t
 ·obtain ⟨j,h1,h2⟩:=h
  rw [hI.done j t (hall j h1) h2,r3 (j+1) t h1 fun k hk hk' hs'=>by have:=hdis j k t h2 hs';omega]
 ·rw [r2 t fun j hj hs'=>h ⟨j,hj,hs'⟩]
  refine hI.rest t fun j hL hs'=>h ⟨j,?_,hs'⟩
  unfold slotOf at hs'
  rcases Nat.lt_or_ge j ops.size with h | h
  ·exact h
  ·simp [Array.getElem?_eq_none h] at hs'
end
end Go.Eng
