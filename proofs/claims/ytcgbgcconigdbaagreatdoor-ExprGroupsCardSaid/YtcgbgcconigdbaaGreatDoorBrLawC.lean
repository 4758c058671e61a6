/-
 BRACKETS AROUND A TEXT: its expression is the same, places aside; and nothing is wrong.
-/
import Derived.Test.YtcgbgcconigdbaaGreatDoorLexB
namespace Go.Proofs.YtcgbgcconigdbaaGreatDoor
open Go.Eng
theorem tokA_at {l:List TokR} {i:Nat} (h:i < l.length):tokA l (i:Int)=l.getD i default:=by
 unfold tokA outA
 rw [decide_eq_false (show ¬ ((i:Int) < 0) by omega),cond_false,decide_eq_false (show ¬ ((i:Int) ≥ (l.length:Int)) by omega),cond_false]
 rfl
theorem both_mirror {l1 l2:List TokR} (h:Both l1 l2) (hn:l1.length≤90000):∃N:Int,Mirror l1 l2 N∧N+1=(l1.length:Int)∧(tokA l2 0).kind=4∧(tokA l2 0).s=[40]∧(tokA l2 (N+2)).kind=0∧∀a,0≤a→a < N→(tokA l1 a).kind≠0:=by
 obtain ⟨A,B,t0,t1,t2,rfl,rfl,hA,k0,k1,s1,k2⟩:=h
 have hl:=hA.len
 rw [List.length_append,List.length_singleton] at hn
 have g1:∀i:Nat,i < A.length→tokA (A++[t0]) (i:Int)=A.getD i default:=fun i hi=>by
  rw [tokA_at (by simp;omega),getD_app,if_pos hi]
 have g2:∀i:Nat,i < B.length→tokA ((B++[t1])++[t2]) (i:Int)=B.getD i default:=fun i hi=>by
  rw [tokA_at (by simp;omega),getD_app,if_pos (by simp;omega),getD_app,if_pos hi]
 have g3:∀a:Int,0≤a→a < (A.length:Int)→∃i:Nat,i < A.length∧a=(i:Int):=fun a h0 h1=>⟨a.toNat,by omega,by omega⟩
 have rel:∀a:Int,0≤a→a < (A.length:Int)→TRel (tokA (A++[t0]) a) (tokA ((B++[t1])++[t2]) (a+1)):=fun a h0 h1=>by
  obtain ⟨i,hi,rfl⟩:=g3 a h0 h1
  rw [g1 i hi,show ((i:Int)+1)=((i+1:Nat):Int) from rfl,g2 (i+1) (by omega)]
  exact hA.at' i hi
 have e2:tokA ((B++[t1])++[t2]) ((A.length:Int)+1)=t1:=by
  rw [show ((A.length:Int)+1)=((A.length+1:Nat):Int) from rfl,tokA_at (by simp;omega),getD_app,if_pos (by simp;omega),getD_app,if_neg (by omega),if_pos (by omega)]
 have e3:tokA ((B++[t1])++[t2]) ((A.length:Int)+2)=t2:=by
  rw [show ((A.length:Int)+2)=((A.length+2:Nat):Int) from rfl,tokA_at (by simp;omega),getD_app,if_neg (by simp;omega),if_pos (by simp;omega)]
 have e0:tokA ((B++[t1])++[t2]) 0=B.getD 0 default:=g2 0 (by omega)
 refine ⟨(A.length:Int),⟨by omega,by omega,by simp,fun a h0 h1=>(rel a h0 h1).kind,fun a h0 h1=>(rel a h0 h1).s,fun a h0 h1=>(rel a h0 h1).n,?_,by rw [e2];exact k1,by rw [e2];exact s1⟩,by simp,by rw [e0];exact hA.k0,by rw [e0];exact hA.s0,by rw [e3];exact k2,fun a h0 h1=>by
  obtain ⟨i,hi,rfl⟩:=g3 a h0 h1
  rw [g1 i hi]
  exact hA.nz i hi⟩
 rw [tokA_at (by simp),getD_app,if_neg (by omega),if_pos rfl]
 exact k0
theorem both_rel {l1 l2:List TokR} (h:Both l1 l2) {N:Int} (hN:N+1=(l1.length:Int)):∀a:Int,0≤a→a < N→TRel (tokA l1 a) (tokA l2 (a+1)):=by
 obtain ⟨A,B,t0,t1,t2,rfl,rfl,hA,k0,k1,s1,k2⟩:=h
 intro a h0 h1
 have hl:=hA.len
 rw [List.length_append,List.length_singleton] at hN
 obtain ⟨i,rfl⟩:∃i:Nat,a=(i:Int):=⟨a.toNat,by omega⟩
 rw [tokA_at (by simp;omega),getD_app,if_pos (by omega),show ((i:Int)+1)=((i+1:Nat):Int) from rfl,tokA_at (by simp;omega),getD_app,if_pos (by simp;omega),getD_app,if_pos (by omega)]
 exact hA.at' i (by omega)
mutual
theorem noP_mov (b:PosR):∀e:ExprR,noP (movE b e)=noP e
 | ⟨op,s,s2,v,l,p⟩=>by simp only [movE,noP,noPs_mov b l]
theorem noPs_mov (b:PosR):∀l:List ExprR,noPs (movL b l)=noPs l
 | []=>rfl
 | e::r=>by simp only [movL,noPs,noP_mov b e,noPs_mov b r]
end
theorem esz_mov (b:PosR) (e:ExprR):esz (movE b e)=esz e:=by rw [←esz_noP,noP_mov,esz_noP]
theorem txL_br {W:Wholes} {C:Nat} (hC:1≤C) (tp tp':PosR):∀(l l':List PartR) (o o':List ExprR) (x y:Bool×List ExprR×BadR),pk l'=pk l→(∀q∈l,q.expr=true→∀w,W q.s=some w→w.c=0→esz w.e≤C)→noPs o'=noPs o →
  txL W tp l o=some x→txL W tp' l' o'=some y→x.2.2.is=false→y.2.2.is=false∧noPs y.2.1=noPs x.2.1∧eszs x.2.1≤eszs o+l.length * C
 | [],[],o,o',x,y,_,_,ho,hx,hy,_=>by
  obtain rfl:=Option.some.inj hx
  obtain rfl:=Option.some.inj hy
  exact ⟨rfl,ho,by simp⟩
 | [],_::_,_,_,_,_,h,_,_,_,_,_=>by simp [pk] at h
 | _::_,[],_,_,_,_,h,_,_,_,_,_=>by simp [pk] at h
 | q::r,q'::r',o,o',x,y,h,hw,ho,hx,hy,hg=>by
  simp only [pk,List.map_cons,List.cons.injEq,Prod.mk.injEq] at h
  obtain ⟨⟨h1,h2⟩,h3⟩:=h
  have hw':∀q∈r,q.expr=true→∀w,W q.s=some w→w.c=0→esz w.e≤C:=fun z hz=>hw z (List.mem_cons_of_mem _ hz)
  simp only [txL] at hx hy
  rw [h1,h2] at hy
  cases c1:q.expr with
  | false =>
   rw [c1] at hx hy
   simp only [Bool.not_false,cond_true] at hx hy
   obtain ⟨g1,g2,g3⟩:=txL_br hC tp tp' r r' _ _ x y h3 hw' (by rw [noPs_app,noPs_app,ho];simp only [litE,noPs,noP]) hx hy hg
   refine ⟨g1,g2,?_⟩
   rw [eszs_app] at g3
   simp only [eszs,lit_sz] at g3
   rw [List.length_cons,Nat.succ_mul]
   omega
  | true =>
   rw [c1] at hx hy
   simp only [Bool.not_true,cond_false] at hx hy
   cases hq:W q.s with
   | none=>rw [hq] at hx;cases hx
   | some w =>
   rw [hq] at hx hy
   simp only [thn] at hx hy
   cases c2:w.c != 0 with
   | true =>
    rw [c2] at hx
    obtain rfl:=Option.some.inj hx
    cases hg
   | false =>
    rw [c2,cond_false] at hx hy
    obtain ⟨g1,g2,g3⟩:=txL_br hC tp tp' r r' _ _ x y h3 hw' (by rw [noPs_app,noPs_app,ho];simp only [noPs,noP_mov]) hx hy hg
    refine ⟨g1,g2,?_⟩
    have h4:=hw q List.mem_cons_self c1 w hq (by simpa using c2)
    rw [eszs_app] at g3
    simp only [eszs,esz_mov] at g3
    rw [List.length_cons,Nat.succ_mul]
    omega
theorem pk_len {l l':List PartR} (h:pk l'=pk l):l'.length=l.length:=by
 have:=congrArg List.length h
 unfold pk at this
 rwa [List.length_map,List.length_map] at this
theorem pk_0 {t u:TokR} (h:pk u.parts=pk t.parts) (h0:0 < t.parts.length):(pt u 0).expr=(pt t 0).expr∧(pt u 0).s=(pt t 0).s:=by
 unfold pt
 cases ht:t.parts with
 | nil=>rw [ht] at h0;simp at h0
 | cons x r =>
  cases hu:u.parts with
  | nil=>rw [ht,hu] at h;simp [pk] at h
  | cons y r' =>
   rw [ht,hu] at h
   simp only [pk,List.map_cons,List.cons.injEq,Prod.mk.injEq] at h
   exact h.1
theorem text_br {W:Wholes} {C:Nat} (hC:1≤C) {t u:TokR} (h:TRel t u) (hw:∀q∈t.parts,q.expr=true→∀w,W q.s=some w→w.c=0→esz w.e≤C) {x y:ExprR×BadR} (hx:textM W t=some x) (hy:textM W u=some y) (hg:x.2.is=false) :
  y.2.is=false∧noP y.1=noP x.1∧esz x.1≤1+t.parts.length * C:=by
 have hl:=pk_len h.parts
 unfold textM at hx hy
 rw [hl] at hy
 cases c0:Nat.ble t.parts.length 100000 with
 | false=>rw [c0] at hx;cases hx
 | true =>
 rw [c0,cond_true] at hx hy
 cases c1:(t.parts.length:Int)==0 with
 | true =>
  rw [c1,cond_true] at hx hy
  obtain rfl:=Option.some.inj hx
  obtain rfl:=Option.some.inj hy
  exact ⟨rfl,by simp only [litE,noP],by rw [lit_sz];omega⟩
 | false =>
 have h0:0 < t.parts.length:=by
  rcases Nat.eq_zero_or_pos t.parts.length with h | h
  ·rw [h] at c1;simp at c1
  ·exact h
 obtain ⟨k1,k2⟩:=pk_0 h.parts h0
 rw [c1,cond_false] at hx hy
 rw [k1,k2] at hy
 cases c2:(bif (t.parts.length:Int)==1 then !(pt t 0).expr else false) with
 | true =>
  rw [c2,cond_true] at hx hy
  obtain rfl:=Option.some.inj hx
  obtain rfl:=Option.some.inj hy
  exact ⟨rfl,by simp only [litE,noP],by rw [lit_sz];omega⟩
 | false =>
  rw [c2,cond_false] at hx hy
  cases e1:txL W t.p t.parts [] with
  | none=>rw [e1] at hx;cases hx
  | some v =>
  cases e2:txL W u.p u.parts [] with
  | none=>rw [e2] at hy;cases hy
  | some z =>
  rw [e1] at hx
  rw [e2] at hy
  obtain rfl:=Option.some.inj hx
  obtain rfl:=Option.some.inj hy
  obtain ⟨g1,g2,g3⟩:=txL_br hC t.p u.p t.parts u.parts [] [] v z h.parts hw rfl e1 e2 hg
  refine ⟨g1,node_noP rfl rfl rfl g2,?_⟩
  show esz (nodeE 26 [] [] v.2.1 t.p)≤_
  rw [node_sz]
  simp only [eszs,Nat.zero_add] at g3
  omega
theorem allK_each {Pr:TokR→Prop} {s:Str} (h:∀b,b≤s.length→Pr (tokO s b).t):∀(k p:Nat) (acc:List TokR),p≤s.length→(∀t∈acc,Pr t)→∀t∈(allK k s p acc).l,Pr t
 | 0,_,_,_,_=>fun t ht=>by simp [allK] at ht
 | k+1,p,acc,hp,hacc=>by
  have hb:=blankM_in s _ p rfl hp
  have hadd:∀t∈acc++[(tokO s (blankM s p)).t],Pr t:=by
   intro t ht
   rcases List.mem_append.1 ht with ht | ht
   ·exact hacc t ht
   ·rw [List.mem_singleton] at ht;subst ht;exact h _ hb.2
  simp only [allK]
  cases he:(tokO s (blankM s p)).e==0 with
  | false=>intro t ht;simp at ht
  | true =>
   obtain ⟨h1,_,_⟩:=tokO_in hb.2 he
   simp only [Bool.not_true,cond_false]
   cases (tokO s (blankM s p)).t.kind==0 with
   | true=>exact hadd
   | false=>exact allK_each h k _ _ h1 hadd
theorem allM_each {Pr:TokR→Prop} {s:Str} (h:∀b,b≤s.length→Pr (tokO s b).t):∀t∈(allM s).l,Pr t:=by
 unfold allM
 cases Nat.blt 32768 s.length with
 | true=>intro t ht;simp at ht
 | false=>exact allK_each h _ _ _ (by omega) (fun t ht=>by simp at ht)
theorem mem_psum:∀{l:List PartR} {q:PartR},q∈l→q.s.length≤psum l
 | x::r,q,h=>by
  simp only [psum]
  rcases List.mem_cons.1 h with rfl | h
  ·omega
  ·have:=mem_psum h;omega
theorem tok_small {s:Str} (b:Nat) (hb:b≤s.length):psum (tokO s b).t.parts≤s.length:=by
 unfold tokO
 cases h0:Nat.beq b s.length with
 | true=>simp [tok0,psum]
 | false =>
 have hlt:b < s.length:=by
  rcases Nat.lt_or_ge b s.length with h | h
  ·exact h
  ·obtain rfl:b=s.length:=by omega
   rw [Nat.beq_refl] at h0;cases h0
 simp only [cond_false]
 cases letB (byt s b) with
 | true=>simp [nameO,psum]
 | false =>
 cases digB (byt s b) with
 | true=>simp [numO,psum]
 | false =>
 cases byt s b==34 with
 | true =>
  simp only [cond_true,cond_false]
  have:=bodyM_in s _ (b+1) [] [] rfl (by omega)
  unfold textO
  cases c:(bodyM s (b+1) [] []).ok with
  | false=>simp [tok0,psum]
  | true =>
   have h2:=this.2.2 c
   simp only [psum,List.length_nil] at h2
   simp only [cond_true]
   omega
 | false =>
  simp only [cond_false]
  unfold signO
  split
  ·cases isOne (byt s b)<;>simp [psum]
  ·simp [psum]
end Go.Proofs.YtcgbgcconigdbaaGreatDoor
namespace Go.Proofs.YtcgbgcconigdbaaGreatDoor
open Go.Eng
def OkB (b:BadR):Prop:=b.is=true→b.c≠0
theorem OkB.w (t:TokR):OkB (wrongB t):=fun _=>by show (4:Int)≠0;decide
theorem OkB.z:OkB bad0:=fun h=>by cases h
def CB (x:Option PR):Prop:=∀r,x=some r→OkB r.b
theorem CB.of {e:ExprR} {a:Int} {b:BadR} (h:OkB b):CB (some ⟨e,a,b⟩):=fun r hr=>by cases hr;exact h
theorem CB.br {c:Bool} {x y:Option PR} (h:CB x) (h':CB y):CB (bif c then x else y):=by cases c<;>assumption
theorem CB.thn {o:Option PR} {k:PR→Option PR} (ho:CB o) (hk:∀r,OkB r.b→CB (k r)):CB (thn o k):=by
 cases o with
 | none=>intro r hr;cases hr
 | some r=>exact hk r (ho r rfl)
def CL (x:Option PL):Prop:=∀r,x=some r→OkB r.b
theorem CL.thn {o:Option PL} {k:PL→Option PR} (ho:CL o) (hk:∀r,OkB r.b→CB (k r)):CB (thn o k):=by
 cases o with
 | none=>intro r hr;cases hr
 | some r=>exact hk r (ho r rfl)
def CX (x:Option (Bool×PL)):Prop:=∀r,x=some r→OkB r.2.b
theorem CX.of {f:Bool} {l:List ExprR} {a:Int} {b:BadR} (h:OkB b):CX (some (f,⟨l,a,b⟩)):=fun r hr=>by cases hr;exact h
theorem CX.br {c:Bool} {x y:Option (Bool×PL)} (h:CX x) (h':CX y):CX (bif c then x else y):=by cases c<;>assumption
theorem CX.thn {o:Option PR} {k:PR→Option (Bool×PL)} (ho:CB o) (hk:∀r,OkB r.b→CX (k r)):CX (thn o k):=by
 cases o with
 | none=>intro r hr;cases hr
 | some r=>exact hk r (ho r rfl)
def CT (T:Texts):Prop:=∀t x,T t=some x→OkB x.2
theorem ct_thn {T:Texts} {t:TokR} {k:ExprR×BadR→Option PR} (h:CT T) (hk:∀r,OkB r.2→CB (k r)):CB (thn (T t) k):=by
 cases e:T t with
 | none=>intro r hr;cases hr
 | some r=>exact hk r (h t r e)
theorem ct_thnX {T:Texts} {t:TokR} {k:ExprR×BadR→Option (Bool×PL)} (h:CT T) (hk:∀r,OkB r.2→CX (k r)):CX (thn (T t) k):=by
 cases e:T t with
 | none=>intro r hr;cases hr
 | some r=>exact hk r (h t r e)
section
variable {l:List TokR} {P:Reads} {T:Texts} (hP:∀k a,CB (P k a)) (hT:CT T)
include hP in
theorem cond_cb (a:Int):CB (condM l P a):=by
 unfold condM condX dp orF
 refine (hP _ _).thn fun r hr=>?_
 refine CB.br (CB.br (CB.of hr) ?_) (CB.of hr)
 refine (hP _ _).thn fun x hx=>CB.br (CB.of hx) (CB.br (CB.of (OkB.w _)) ?_)
 exact (hP _ _).thn fun y hy=>CB.of hy
include hP in
theorem un_cb (a:Int):CB (unX l a (dp P) OM):=by
 unfold unX dp
 have N:∀op:Int,CB (thn (P 6 (w64 (a+1))) fun x=>OM.n op [] [] [x.e] (tokA l a).p x.a x.b):=fun op=>(hP _ _).thn fun x hx=>CB.of hx
 exact CB.br (CB.br (N 7) (N 6)) (CB.br (N 7) ((hP _ _).thn fun r hr=>CB.of (e:=r.e) (a:=r.a) hr))
include hP in
theorem lv_cb {lv:Nat}:∀(m:Nat) (r:PR),OkB r.b→CB (lvL l lv P m r)
 | 0,_,_=>fun r h=>by cases h
 | m+1,r,hr=>by
  unfold lvL lvB dp
  refine CB.br (CB.br ?_ (CB.of (e:=r.e) (a:=r.a) hr)) (CB.of (e:=r.e) (a:=r.a) hr)
  refine (hP _ _).thn fun x hx=>CB.br (CB.of hx) ?_
  exact lv_cb m _ hx
include hP in
theorem post_cb:∀(m:Nat) (r:PR),OkB r.b→∀x,postL l P m r=some x→OkB x.2.b
 | 0,_,_,_,h=>by cases h
 | m+1,r,hr,x,hx=>by
  unfold postL postB dp at hx
  cases c1:r.b.is with
  | true=>rw [c1] at hx;obtain rfl:=Option.some.inj hx;exact hr
  | false =>
  rw [c1] at hx
  simp only [Bool.not_false,cond_true] at hx
  cases c2:sgA l r.a [46] with
  | true =>
   rw [c2,cond_true] at hx
   cases c3:(tokA l (w64 (r.a+1))).kind != 1 with
   | true=>rw [c3] at hx;obtain rfl:=Option.some.inj hx;exact OkB.w _
   | false=>rw [c3,cond_false] at hx;refine post_cb m _ ?_ x hx;exact hr
  | false =>
  rw [c2,cond_false] at hx
  cases c4:!(sgA l r.a [91]) with
  | true=>rw [c4] at hx;obtain rfl:=Option.some.inj hx;exact hr
  | false =>
  rw [c4,cond_false] at hx
  cases e:P 0 (w64 (r.a+1)) with
  | none=>rw [e] at hx;cases hx
  | some y =>
  rw [e] at hx
  simp only [thn] at hx
  cases c5:y.b.is with
  | true=>rw [c5] at hx;obtain rfl:=Option.some.inj hx;exact hP _ _ y e
  | false =>
  rw [c5,cond_false] at hx
  cases c6:!(sgA l y.a [93]) with
  | true=>rw [c6] at hx;obtain rfl:=Option.some.inj hx;exact OkB.w _
  | false=>rw [c6,cond_false] at hx;refine post_cb m _ ?_ x hx;exact hr
include hP hT in
theorem ex_cb (e:Str):∀(m:Nat) (out:List ExprR) (a:Int),CX (exL l e P T m out a)
 | 0,_,_=>fun r h=>by cases h
 | m+1,out,a=>by
  have val:∀(o:List ExprR) (a':Int),CX (thn (P 0 a') fun r=>bif r.b.is then (some (true,⟨[],r.a,r.b⟩):Option (Bool×PL)) else bif !(sgA l r.a [44]) then some (false,⟨o++[r.e],r.a,bad0⟩) else exL l e P T m (o++[r.e]) (w64 (r.a+1))) :=
   fun o a'=>CX.thn (hP _ _) fun r hr=>CX.br (CX.of hr) (CX.br (CX.of OkB.z) (ex_cb e m _ _))
  unfold exL exB keyX signX tx dp
  refine CX.br (CX.br ?_ (val out a)) (CX.of OkB.z)
  have key:∀k:ExprR,CX (bif (!(sgA l (w64 (a+1)) [61]))==true then (bif !(sgA l (w64 (a+1)) [58]) then some (true,(⟨[],w64 (a+1),wrongB (tokA l (w64 (a+1)))⟩:PL)) else thn (P 0 (w64 (w64 (a+1)+1))) fun r=>bif r.b.is then (some (true,⟨[],r.a,r.b⟩):Option (Bool×PL)) else bif !(sgA l r.a [44]) then some (false,⟨(out++[k])++[r.e],r.a,bad0⟩) else exL l e P T m ((out++[k])++[r.e]) (w64 (r.a+1)))
    else thn (P 0 (w64 (w64 (a+1)+1))) fun r=>bif r.b.is then (some (true,⟨[],r.a,r.b⟩):Option (Bool×PL)) else bif !(sgA l r.a [44]) then some (false,⟨(out++[k])++[r.e],r.a,bad0⟩) else exL l e P T m ((out++[k])++[r.e]) (w64 (r.a+1))) :=
   fun k=>CX.br (CX.br (CX.of (OkB.w _)) (val _ _)) (val _ _)
  refine CX.br (CX.of (OkB.w _)) (CX.br ?_ (key _))
  exact ct_thnX hT fun x hx=>CX.br (CX.of hx) (key _)
include hP hT in
theorem exs_cb (m:Nat) (e:Str) (a:Int):CL (exsM l P T m e a):=by
 unfold exsM
 intro r hr
 cases h:exL l e P T m [] a with
 | none=>rw [h] at hr;cases hr
 | some x =>
  rw [h] at hr
  obtain rfl:=Option.some.inj hr
  have hx:=ex_cb hP hT e m [] a x h
  unfold exFin
  cases x.1 with
  | true=>exact hx
  | false =>
   simp only [cond_false]
   cases !(sgA l x.2.a e) with
   | true=>exact OkB.w _
   | false=>exact OkB.z
variable {op:Int} {e:Str} {p:PosR} {s s2:Str}
theorem fFin_cb (L:List ExprR) (a:Int):CB (fFin l op e p s s2 L a):=CB.br (CB.of (OkB.w _)) (CB.of OkB.z)
include hP in
theorem fIf_cb (L:List ExprR) (a:Int):CB (fIf l P op e p s s2 L a):=CB.br ((hP _ _).thn fun c hc=>CB.br (CB.of hc) (fFin_cb _ _)) (fFin_cb _ _)
include hP in
theorem fOne_cb (L:List ExprR) (a:Int) {K:List ExprR→Int→Option PR} (hK:∀L a,CB (K L a)):CB (fOne P op p s s2 L a K):=(hP _ _).thn fun x hx=>CB.br (by cases L<;>exact CB.of hx) (hK _ _)
theorem fSg_cb (w:Str) (L:List ExprR) (a:Int) {K:List ExprR→Int→Option PR} (hK:∀L a,CB (K L a)):CB (fSg l op p s s2 w L a K):=CB.br (CB.of (OkB.w _)) (hK _ _)
include hP in
theorem fIn_cb (a:Int):CB (fIn l P op e p s s2 a):=by
 unfold fIn
 refine CB.br (CB.of (OkB.w _)) (CB.br ?_ ?_)
 ·exact fOne_cb hP _ _ fun _ _=>fSg_cb _ _ _ fun _ _=>fOne_cb hP _ _ fun _ _=>fSg_cb _ _ _ fun _ _=>fOne_cb hP _ _ fun _ _=>fIf_cb hP _ _
 ·exact fOne_cb hP _ _ fun _ _=>fSg_cb _ _ _ fun _ _=>fOne_cb hP _ _ fun _ _=>fIf_cb hP _ _
include hP in
theorem for_cb (a:Int):CB (forY op l a e p (dp P) OM):=by
 rw [forY_eq]
 unfold orF
 exact CB.br (CB.br (CB.of (OkB.w _)) (CB.br (CB.br (CB.br (CB.of (OkB.w _)) (fIn_cb hP _)) (CB.of (OkB.w _))) (fIn_cb hP _))) (CB.of (OkB.w _))
include hP in
theorem forM_cb (e:Str) (a:Int) (p:PosR):CB (forM l P e a p):=by
 unfold forM
 exact CB.br (for_cb hP a) (CB.br (for_cb hP a) (fun r h=>by cases h))
include hP hT in
theorem first_cb (m:Nat) (a:Int):CB (firstM l P T m a):=by
 unfold firstM firstX tx dp
 have lst:∀(e:Str) (b op:Int) (s:Str) (p:PosR),CB (thn (exsM l P T m e b) fun x=>OM.y op s [] x.l p x.a x.b):=fun e b op s p=>(exs_cb hP hT m e b).thn fun x hx=>CB.of hx
 have fr:∀(e:Str) (b:Int) (p:PosR),CB (thn (forM l P e b p) OM.e):=fun e b p=>(forM_cb hP e b p).thn fun r hr=>CB.of (e:=r.e) (a:=r.a) hr
 refine CB.br (CB.of OkB.z) (CB.br (ct_thn hT fun x hx=>CB.of hx) (CB.br ?_ (CB.br ?_ (CB.br (CB.br (fr _ _ _) (lst _ _ _ _ _)) (CB.br ?_ (CB.of (OkB.w _)))))))
 ·exact CB.br (CB.of OkB.z) (CB.br (CB.of OkB.z) (CB.br (CB.of OkB.z) (CB.br (CB.of (OkB.w _)) (CB.br (lst _ _ _ _ _) (CB.of OkB.z)))))
 ·exact (hP _ _).thn fun r hr=>CB.br (CB.br (CB.of (OkB.w _)) (CB.of hr)) (CB.of hr)
 ·exact CB.br (CB.br (CB.br (fr _ _ _) (lst _ _ _ _ _)) (lst _ _ _ _ _)) (lst _ _ _ _ _)
end
theorem rd_cb {l:List TokR} {T:Texts} (hT:CT T):∀(n k:Nat) (a:Int),CB (rdM l T n k a)
 | 0,_,_=>fun r h=>by cases h
 | n+1,k,a=>by
  have ih:=rd_cb (l:=l) hT n
  have lvs:∀lv,CB (thn (rdM l T n (lv+1) a) fun r=>thn (lvL l lv (rdM l T n) n r) OM.e):=fun lv =>
   (ih _ _).thn fun r hr=>CB.thn (lv_cb ih n r hr) fun r hr=>CB.of (e:=r.e) (a:=r.a) hr
  match k with
  | 0=>exact cond_cb ih a
  | 6=>exact un_cb ih a
  | 7 =>
   show CB (postM l (rdM l T n) T n a)
   unfold postM
   refine (first_cb ih hT n a).thn fun r hr=>?_
   intro x hx
   cases h:postL l (rdM l T n) n r with
   | none=>rw [h] at hx;cases hx
   | some y =>
    rw [h] at hx
    obtain rfl:=Option.some.inj hx
    exact post_cb ih n r hr y h
  | 1=>exact lvs 1
  | 2=>exact lvs 2
  | 3=>exact lvs 3
  | 4=>exact lvs 4
  | 5=>exact lvs 5
  | k+8=>exact fun r h=>by cases h
theorem txL_cb {W:Wholes} {tp:PosR}:∀(l:List PartR) (o:List ExprR) (x:Bool×List ExprR×BadR),txL W tp l o=some x→OkB x.2.2
 | [],o,x,h=>by obtain rfl:=Option.some.inj h;exact OkB.z
 | q::r,o,x,h=>by
  simp only [txL] at h
  cases c1:q.expr with
  | false=>rw [c1] at h;exact txL_cb r _ x h
  | true =>
   rw [c1] at h
   simp only [Bool.not_true,cond_false] at h
   cases e:W q.s with
   | none=>rw [e] at h;cases h
   | some w =>
    rw [e] at h
    simp only [thn] at h
    cases c2:w.c != 0 with
    | true=>rw [c2] at h;obtain rfl:=Option.some.inj h;exact fun _=>by simpa using c2
    | false=>rw [c2] at h;exact txL_cb r _ x h
theorem text_cb (W:Wholes):CT (textM W):=by
 intro t x h
 unfold textM at h
 cases c0:Nat.ble t.parts.length 100000 with
 | false=>rw [c0] at h;cases h
 | true =>
 rw [c0,cond_true] at h
 cases c1:(t.parts.length:Int)==0 with
 | true=>rw [c1] at h;obtain rfl:=Option.some.inj h;exact OkB.z
 | false =>
 rw [c1,cond_false] at h
 cases c2:(bif (t.parts.length:Int)==1 then !(pt t 0).expr else false) with
 | true=>rw [c2] at h;obtain rfl:=Option.some.inj h;exact OkB.z
 | false =>
  rw [c2,cond_false] at h
  cases e:txL W t.p t.parts [] with
  | none=>rw [e] at h;cases h
  | some v =>
   rw [e] at h
   obtain rfl:=Option.some.inj h
   exact txL_cb _ _ v e
theorem noQ_br {s:Str} (h:noQ s):noQ (br s):=by
 intro c hc
 unfold br at hc
 rw [List.mem_cons,List.mem_append] at hc
 rcases hc with rfl | hc | hc
 ·decide
 ·exact h c hc
 ·simp only [List.mem_cons,List.not_mem_nil,or_false] at hc
  rcases hc with rfl | rfl<;>decide
theorem noQ_tok {s:Str} (h:noQ s) {t:TokR} (ht:t∈(allM s).l) (hk:t.kind=3):False:=by
 obtain ⟨_,b,hb,hq⟩:=(allM_toks s).1 t ht hk
 have:=h s[b] (List.getElem_mem hb)
 rw [byt_ne (List.getElem?_eq_getElem hb)] at hq
 exact absurd (UInt8.toNat_inj.1 (show (s[b]).toNat=(34:UInt8).toNat by show _=34;omega)) this
theorem whole_inv {T:Texts} (hT:CT T) {s:Str} {w:WR} (h:wholeM (fun l=>rdM l T fuel) s=some w) (hc:w.c=0):(allM s).bad=0∧∃r,rdM (allM s).l T fuel 0 0=some r∧r.b.is=false∧(tokA (allM s).l r.a).kind=0∧w.e=r.e:=by
 have hb:=wholeM_zero h hc
 refine ⟨hb,?_⟩
 unfold wholeM at h
 rw [hb,show ((0:Int) != 0)=false from rfl,cond_false] at h
 simp only at h
 cases e:rdM (allM s).l T fuel 0 0 with
 | none=>rw [e] at h;cases h
 | some r =>
  rw [e] at h
  simp only [thn] at h
  unfold badW at h
  cases c1:r.b.is with
  | true =>
   rw [c1] at h
   simp only [Bool.not_true,cond_false,c1,cond_true] at h
   obtain rfl:=Option.some.inj h
   exact absurd hc (rd_cb hT fuel 0 0 r e c1)
  | false =>
   rw [c1] at h
   simp only [Bool.not_false,cond_true] at h
   cases c2:(tokA (allM s).l r.a).kind != 0 with
   | true =>
    rw [c2] at h
    obtain rfl:=Option.some.inj h
    exact absurd hc (by show (4:Int)≠0;decide)
   | false =>
    rw [c2] at h
    simp only [cond_false,c1] at h
    obtain rfl:=Option.some.inj h
    exact ⟨r,rfl,c1,by simpa using c2,rfl⟩
theorem T0_ct:CT T0:=fun t x h=>by cases h
theorem W1_sz {s:Str} (hs:s.length≤30000) (hq:noQ s) {w:WR} (h:W1 s=some w) (hc:w.c=0):esz w.e≤32769:=by
 obtain ⟨hb,r,hr,hg,_,he⟩:=whole_inv T0_ct h hc
 obtain ⟨hb2,hB⟩:=allM_br hs hb
 have hl1:=(allM_toks s).2.1
 have hl2:=(allM_toks (br s)).2.1
 obtain ⟨N,M,hN,k0,s0,k2,_⟩:=both_mirror hB (by omega)
 have hW:∀a:Int,(fun a=>a) a+1≤(fun a:Int=>a) (a+1):=fun a=>Int.le_refl _
 have hRT:RT (allM s).l (allM (br s)).l N (fun a=>a) T0 T0:=fun a _ _ _ x1 x2 h=>by cases h
 have hlen2:N+2≤((allM (br s)).l.length:Int):=by
  obtain ⟨A,B,t0,t1,t2,e1,e2,hA,_⟩:=hB
  have:=hA.len
  rw [e1,List.length_append,List.length_singleton] at hN
  rw [e2,List.length_append,List.length_append,List.length_singleton,List.length_singleton]
  omega
 have hN0:=M.n0
 obtain ⟨r2,e2,_⟩:=rd_tot (T:=T0) (allM (br s)).l (by omega) (fun a hk=>by
  exfalso
  exact noQ_tok (noQ_br hq) (tokA_mem (by rw [hk];decide)) hk) fuel 0 1 (by omega) (by omega) (by omega) (by have:fuel=1000000:=rfl;omega)
 have:=rd_r2 M hW hRT fuel fuel 0 0 (Int.le_refl _) M.n0 r r2 hr e2 hg
 have z:(esz r.e:Int)+0≤r.a:=this.sz
 have hi:=this.hi
 rw [he]
 omega
theorem par_rd {l:List TokR} (hl:l.length≤90000) {T:Texts} {n:Nat} {r:PR} {c:Int} (h:rdM l T (n+1) 0 1=some r) (hg:r.b.is=false) (hc:r.a=c) (c0:0≤c) (c1:c < (l.length:Int)) (k0:(tokA l 0).kind=4) (s0:(tokA l 0).s=[40]) (hp:sgA l c [41]=true) (he:(tokA l (c+1)).kind=0) :
  rdM l T (n+9) 0 0=some ⟨r.e,c+1,r.b⟩:=by
 have w1:w64 (c+1)=c+1:=w1_in l (by omega) c0 (by omega)
 have sg0:∀s,sgA l 0 s=(([40]:Str)==s):=fun s=>by unfold sgA;rw [k0,s0];rfl
 have sge:∀s,sgA l (c+1) s=false:=fun s=>by unfold sgA;rw [he];rfl
 have ope:∀lv,decide (opA lv (tokA l (c+1)) > 0)=false:=fun lv=>by unfold opA;rw [he];rfl
 have f7:firstM l (rdM l T (n+1)) T (n+1) 0=some ⟨r.e,c+1,r.b⟩:=by
  unfold firstM firstX
  simp only [k0,sg0,dp]
  show (thn (rdM l T (n+1) 0 (w64 (0+1))) _)=_
  rw [show w64 (0+1)=1 from rfl,h]
  simp only [thn,hg,hc,hp,Bool.not_false,BEq.rfl,cond_true,Bool.not_true,cond_false,w1]
  rfl
 have r7:rdM l T (n+2) 7 0=some ⟨r.e,c+1,r.b⟩:=by
  show postM l (rdM l T (n+1)) T (n+1) 0=_
  unfold postM
  rw [f7]
  simp only [thn,postL,postB,hg,sge,Bool.not_false,cond_true,cond_false]
  rfl
 have r6:rdM l T (n+3) 6 0=some ⟨r.e,c+1,r.b⟩:=by
  show unX l 0 (dp (rdM l T (n+2))) OM=_
  unfold unX dp
  simp only [sg0]
  show thn (rdM l T (n+2) 7 0) OM.e=_
  rw [r7]
  rfl
 have lv:∀m lv,rdM l T (m+1) (lv+1) 0=some ⟨r.e,c+1,r.b⟩→thn (rdM l T (m+1) (lv+1) 0) (fun r=>thn (lvL l lv (rdM l T (m+1)) (m+1) r) OM.e)=some ⟨r.e,c+1,r.b⟩:=by
  intro m lv h
  rw [h]
  simp only [thn,lvL,lvB,hg,ope,Bool.not_false,BEq.rfl,cond_true,cond_false]
  rfl
 have r5:rdM l T (n+4) 5 0=some ⟨r.e,c+1,r.b⟩:=lv (n+2) 5 r6
 have r4:rdM l T (n+5) 4 0=some ⟨r.e,c+1,r.b⟩:=lv (n+3) 4 r5
 have r3:rdM l T (n+6) 3 0=some ⟨r.e,c+1,r.b⟩:=lv (n+4) 3 r4
 have r2:rdM l T (n+7) 2 0=some ⟨r.e,c+1,r.b⟩:=lv (n+5) 2 r3
 have r1:rdM l T (n+8) 1 0=some ⟨r.e,c+1,r.b⟩:=lv (n+6) 1 r2
 show condM l (rdM l T (n+8)) 0=_
 unfold condM condX dp orF
 rw [r1]
 simp only [thn,hg,sge,Bool.not_false,BEq.rfl,cond_true]
 rfl
theorem allM_len (s:Str):(allM s).l.length≤s.length+1:=by
 unfold allM
 cases Nat.blt 32768 s.length with
 | true=>simp
 | false=>exact (allK_toks s (s.length+1) 0 [] (by omega) (by omega) (fun t h=>by simp at h) (by simp)).2.1
theorem T1_ct:CT T1:=text_cb W1
end Go.Proofs.YtcgbgcconigdbaaGreatDoor
namespace Go.Proofs.YtcgbgcconigdbaaGreatDoor
open Go.Eng
theorem W2_grp {s:Str} (hs:s.length≤3100) {w:WR} (h:W2 s=some w) (hc:w.c=0):∃e,W2 (br s)=some ⟨e,0,p00⟩∧noP e=noP w.e:=by
 obtain ⟨hb,r,hr,hg,hk,he⟩:=whole_inv T1_ct h hc
 obtain ⟨hb2,hB⟩:=allM_br (by omega) hb
 have hl1:=(allM_toks s).2.1
 have hl2:=(allM_toks (br s)).2.1
 obtain ⟨N,M,hN,k0,s0,k2,hnz⟩:=both_mirror hB (by omega)
 have hrel:=both_rel hB hN
 have hW:∀a:Int,(fun a=>110000000 * a) a+1≤(fun a:Int=>110000000 * a) (a+1):=fun a=>by simp only;omega
 have hRT:RT (allM s).l (allM (br s)).l N (fun a=>110000000 * a) T1 T1:=by
  intro a h0 h1 hk x1 x2 e1 e2 hx
  have hm:=tokA_mem (l:=(allM s).l) (a:=a) (by rw [hk];decide)
  obtain ⟨⟨o1,o2⟩,_⟩:=(allM_toks s).1 _ hm hk
  have hps:=allM_each (Pr:=fun t=>psum t.parts≤s.length) tok_small _ hm
  obtain ⟨g1,g2,g3⟩:=text_br (W:=W1) (C:=32769) (by decide) (hrel a h0 h1) (fun q hq hqe w hw hwc=>W1_sz (by have:=mem_psum hq;omega) (o1 q hq hqe) hw hwc) e1 e2 hx
  refine ⟨g1,g2,?_⟩
  have:(tokA (allM s).l a).parts.length * 32769≤3101 * 32769:=Nat.mul_le_mul_right _ (by omega)
  simp only
  omega
 have hlen2:N+2 < ((allM (br s)).l.length:Int):=by
  obtain ⟨A,B,t0,t1,t2,e1,e2,hA,_⟩:=hB
  have:=hA.len
  rw [e1,List.length_append,List.length_singleton] at hN
  rw [e2,List.length_append,List.length_append,List.length_singleton,List.length_singleton]
  omega
 have hN0:=M.n0
 have hT2:∀a',(tokA (allM (br s)).l a').kind=3→∃x,T1 (tokA (allM (br s)).l a')=some x:=fun a' hk=>by
  have hm:=tokA_mem (l:=(allM (br s)).l) (a:=a') (by rw [hk];decide)
  exact T1_tot _ ((allM_toks (br s)).1 _ hm) ((allM_toks (br s)).2.2.2 ⟨_,hm⟩) hk
 obtain ⟨r2,e2,_⟩:=rd_tot (allM (br s)).l (by omega) hT2 (999991+1) 0 1 (by omega) (by omega) (by omega) (by omega)
 have S:=rd_r2 M hW hRT fuel (999991+1) 0 0 (Int.le_refl _) M.n0 r r2 hr e2 hg
 have z:(esz r.e:Int)+110000000 * 0≤110000000 * r.a:=S.sz
 have hi:=S.hi
 have lo:=S.lo
 have hl0:=allM_len s
 have hrN:r.a=N:=by
  rcases Int.lt_or_le r.a N with h | h
  ·exact absurd hk (hnz r.a lo h)
  ·omega
 have hp:sgA (allM (br s)).l (N+1) [41]=true:=by unfold sgA;rw [M.k2,M.s2];rfl
 have hpar:=par_rd (by omega) e2 S.g2 (c:=N+1) (by rw [S.a,hrN]) (by omega) (by omega) k0 s0 hp (by rw [show N+1+1=N+2 by omega];exact k2)
 have hfu:rdM (allM (br s)).l T1 fuel 0 0=some ⟨r2.e,N+1+1,r2.b⟩:=hpar
 refine ⟨r2.e,?_,by rw [he];exact S.e⟩
 unfold W2 wholeM
 simp only [hb2,hfu,thn]
 show (bif (badW (allM (br s)).l ⟨r2.e,N+1+1,r2.b⟩).is then _ else _)=_
 have hbw:badW (allM (br s)).l ⟨r2.e,N+1+1,r2.b⟩=r2.b:=by
  unfold badW
  simp only [S.g2,Bool.not_false,cond_true]
  rw [show N+1+1=N+2 by omega,k2]
  rfl
 rw [hbw,S.g2]
 rfl
end Go.Proofs.YtcgbgcconigdbaaGreatDoor
