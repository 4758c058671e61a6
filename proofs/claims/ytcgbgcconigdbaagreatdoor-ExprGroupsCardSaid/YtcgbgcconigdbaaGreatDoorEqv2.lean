/-
 THE PROGRAM's READER AND THE DOCUMENT's: the signs of a level; what stands behind something.
-/
import Derived.Test.YtcgbgcconigdbaaGreatDoorBrLawC
import Derived.Test.YtcgbgcconigdbaaGreatDoorWholeP
namespace Go.Proofs.YtcgbgcconigdbaaGreatDoor.Eqv
open Go.Eng
set_option maxRecDepth 100000
structure Ok (l:List TokR) (r:PR) (e:ExprR) (z:Rd.Rdr):Prop where
 zl:z.l=l
 ok:r.b.is=false→z.c=0∧z.a=r.a∧noP e=noP r.e∧Bare e
 bad:r.b.is=true→z.c=r.b.c∧z.c≠0∧z.p=r.b.p
def DP (l:List TokR) (P:Reads) (Q:Nat→Rd.Rdr→Rd.Got):Prop:=∀k z r,z.l=l→z.c=0→P k z.a=some r→∃e z',Q k z=some (e,z')∧Ok l r e z'
def Wr (Q:Nat→Rd.Rdr→Rd.Got):Prop:=∀k z,z.c≠0→Q k z=some (Rd.e00,z)
def TP (l:List TokR) (T:Texts) (TZ:Rd.Rdr→Rd.Got):Prop:=∀z e b,z.l=l→z.c=0→(tokA l z.a).kind=3→T (tokA l z.a)=some (e,b)→∃e' z',TZ z=some (e',z')∧Ok l ⟨e,w64 (z.a+1),b⟩ e' z'
section
variable {l:List TokR} {z:Rd.Rdr}
theorem tok_eq (hl:z.l=l):Rd.tokZ z=tokA l z.a:=by subst hl;rfl
theorem nx_eq (hl:z.l=l) (hc:z.c=0) (s:Str):Rd.nxZ z s=sgA l z.a s:=by
 subst hl
 unfold Rd.nxZ Rd.isA sgA
 rw [hc]
 rfl
theorem nx_wrong (hc:z.c≠0) (s:Str):Rd.nxZ z s=false:=by
 unfold Rd.nxZ Rd.isA
 rw [show (z.c==0)=false from beq_eq_false_iff_ne.2 hc]
 rfl
theorem wd_eq (hl:z.l=l) (hc:z.c=0) (s:Str):Rd.wdB z s=wdA l z.a s:=by
 subst hl
 unfold Rd.wdB wdA
 rw [hc]
 rfl
theorem wd_wrong (hc:z.c≠0) (s:Str):Rd.wdB z s=false:=by
 unfold Rd.wdB
 rw [show (z.c==0)=false from beq_eq_false_iff_ne.2 hc]
 rfl
theorem fail_wrong (hc:z.c≠0) (p:PosR):Rd.failZ z p=z:=by
 unfold Rd.failZ Rd.failC
 rw [show (z.c==0)=false from beq_eq_false_iff_ne.2 hc]
 rfl
theorem fail_eq (hc:z.c=0) (p:PosR):Rd.failZ z p={ z with c:=4,p:=p }:=by
 unfold Rd.failZ Rd.failC
 rw [show (z.c==0)=true from beq_iff_eq.2 hc]
 rfl
theorem must_wrong (hc:z.c≠0) (s:Str):Rd.mustZ z s=z:=by
 unfold Rd.mustZ
 rw [nx_wrong hc,cond_false,fail_wrong hc]
theorem must_t {s:Str} (h:Rd.nxZ z s=true):Rd.mustZ z s=Rd.bump z:=by unfold Rd.mustZ;rw [h];rfl
theorem must_f {s:Str} (h:Rd.nxZ z s=false):Rd.mustZ z s=Rd.failZ z (Rd.tokZ z).p:=by unfold Rd.mustZ;rw [h];rfl
theorem bump_l (z:Rd.Rdr):(Rd.bump z).l=z.l:=rfl
theorem bump_c (z:Rd.Rdr):(Rd.bump z).c=z.c:=rfl
theorem bump_a (z:Rd.Rdr):(Rd.bump z).a=w64 (z.a+1):=rfl
theorem noP_nd (op:Int) (s s2:Str) (l:List ExprR):noP (Rd.ndE op s s2 l)=⟨op,s,s2,v00,noPs l,p00⟩:=by rw [noP_eq];rfl
theorem noP_node (op:Int) (s s2:Str) (l:List ExprR) (p:PosR):noP (nodeE op s s2 l p)=⟨op,s,s2,v00,noPs l,p00⟩:=by rw [noP_eq];rfl
theorem noP_nP (e:ExprR):noP (Rd.nP e)=noP e:=by
 rw [noP_eq,noP_eq e]
 obtain ⟨op,s,s2,v,l,p⟩:=e
 cases v
 rfl
theorem noP_lt (k i:Int) (s:Str) (p:PosR):noP (Rd.ltE k i s)=noP (litE k i s p):=by rw [noP_eq,noP_eq];rfl
theorem bare_nd {op:Int} {s s2:Str} {l:List ExprR} (h:∀x,x∈l→Bare x):Bare (Rd.ndE op s s2 l):=.mk _ rfl rfl h
theorem bare_lt (k i:Int) (s:Str):Bare (Rd.ltE k i s):=.mk _ rfl rfl fun x h=>by cases h
theorem bare_nP {e:ExprR} (h:Bare e):Bare (Rd.nP e):=by
 cases h with
 | mk e h1 h2 h3=>exact .mk _ h1 h2 h3
theorem Ok.wrong {r:PR} {e:ExprR} (h:Ok l r e z) (hb:r.b.is=true) (r':PR) (e':ExprR) (h':r'.b=r.b):Ok l r' e' z :=
 ⟨h.zl,fun h1=>(by rw [h',hb] at h1;cases h1),fun _=>by rw [h'];exact h.bad hb⟩
theorem Ok.fail (hl:z.l=l) (hc:z.c=0) (t:TokR) (r:PR) (e:ExprR) (h:r.b=wrongB t):Ok l r e (Rd.failZ z t.p):=by
 rw [fail_eq hc]
 exact ⟨hl,fun h1=>(by rw [h] at h1;cases h1),fun _=>by rw [h];exact ⟨rfl,(by show (4:Int)≠0;decide),rfl⟩⟩
end
theorem orF_t {β:Type} (y:Bool) (A B:Option β):orF true y A B=A:=rfl
theorem orF_f {β:Type} (y:Bool) (A B:Option β):orF false y A B=bif y then A else B:=rfl
section
variable {l:List TokR} {P:Reads} {Q:Nat→Rd.Rdr→Rd.Got} (hP:DP l P Q) (hw:Wr Q)
include hP hw
theorem cond_eqv {z:Rd.Rdr} {r:PR} (hl:z.l=l) (hc:z.c=0) (h:condM l P z.a=some r):∃e z',Rd.exprP Q z=some (e,z')∧Ok l r e z':=by
 unfold condM condX dp at h
 cases hx:P 1 z.a with
 | none=>rw [hx] at h;cases h
 | some r1 =>
  rw [hx] at h
  simp only [thn] at h
  obtain ⟨e1,z1,q1,o1⟩:=hP 1 z r1 hl hc hx
  unfold Rd.exprP
  rw [q1]
  simp only [Rd.thenG]
  cases c1:r1.b.is with
  | true =>
   rw [c1,orF_t] at h
   obtain rfl:=Option.some.inj h
   rw [nx_wrong (o1.bad c1).2.1]
   exact ⟨e1,z1,rfl,o1⟩
  | false =>
   rw [c1,orF_f] at h
   obtain ⟨a1,a2,a3,a4⟩:=o1.ok c1
   rw [nx_eq o1.zl a1,a2]
   cases c2:sgA l r1.a [63] with
   | false =>
    rw [c2] at h
    obtain rfl:=Option.some.inj h
    exact ⟨e1,z1,rfl,o1⟩
   | true =>
    rw [c2] at h
    simp only [Bool.not_true,cond_false,cond_true] at h ⊢
    rw [←a2,←bump_a] at h
    cases hx2:P 0 (Rd.bump z1).a with
    | none=>rw [hx2] at h;cases h
    | some r2 =>
     rw [hx2] at h
     simp only at h
     obtain ⟨e2,z2,q2,o2⟩:=hP 0 (Rd.bump z1) r2 o1.zl a1 hx2
     rw [q2]
     simp only [Rd.thenG]
     cases c3:r2.b.is with
     | true =>
      rw [c3] at h
      obtain rfl:=Option.some.inj h
      have hb:=(o2.bad c3).2.1
      rw [must_wrong hb,hw 0 z2 hb]
      exact ⟨_,z2,rfl,o2.wrong c3 _ _ rfl⟩
     | false =>
      rw [c3] at h
      obtain ⟨b1,b2,b3,b4⟩:=o2.ok c3
      simp only [cond_false] at h
      cases c4:sgA l r2.a [58] with
      | false =>
       rw [c4] at h
       obtain rfl:=Option.some.inj h
       rw [must_f (by rw [nx_eq o2.zl b1,b2,c4]),tok_eq o2.zl,b2]
       have hf:=Ok.fail (l:=l) (z:=z2) o2.zl b1 (tokA l r2.a) ⟨r1.e,r2.a,wrongB (tokA l r2.a)⟩ Rd.e00 rfl
       rw [hw 0 _ (hf.bad rfl).2.1]
       exact ⟨_,_,rfl,hf.wrong rfl _ _ rfl⟩
      | true =>
       rw [c4] at h
       simp only [Bool.not_true,cond_false] at h
       rw [must_t (by rw [nx_eq o2.zl b1,b2,c4])]
       rw [←b2,←bump_a] at h
       cases hx3:P 0 (Rd.bump z2).a with
       | none=>rw [hx3] at h;cases h
       | some r3 =>
        rw [hx3] at h
        obtain rfl:=Option.some.inj h
        obtain ⟨e3,z3,q3,o3⟩:=hP 0 (Rd.bump z2) r3 o2.zl b1 hx3
        rw [q3]
        refine ⟨_,z3,rfl,o3.zl,fun hb=>?_,o3.bad⟩
        obtain ⟨d1,d2,d3,d4⟩:=o3.ok hb
        refine ⟨d1,d2,?_,bare_nd fun x hx=>?_⟩
        ·rw [noP_nd,noP_node]
         simp only [noPs,noP_nP,a3,b3,d3]
        ·simp only [List.mem_cons,List.not_mem_nil,or_false] at hx
         rcases hx with rfl | rfl | rfl
         ·exact bare_nP a4
         ·exact bare_nP b4
         ·exact bare_nP d4
omit hw in
theorem un_eqv {z:Rd.Rdr} {r:PR} (hl:z.l=l) (hc:z.c=0) (h:unX l z.a (dp P) OM=some r):∃e z',Rd.unaryP Q z=some (e,z')∧Ok l r e z':=by
 have N:∀op:Int,(thn (P 6 (w64 (z.a+1))) fun x=>OM.n op [] [] [x.e] (tokA l z.a).p x.a x.b)=some r→∃e z',(Rd.thenG (Q 6 (Rd.bump z)) fun x z'=>some (Rd.ndE op [] [] [Rd.nP x],z'))=some (e,z')∧Ok l r e z':=by
  intro op h
  rw [←bump_a] at h
  cases hx:P 6 (Rd.bump z).a with
  | none=>rw [hx] at h;cases h
  | some r1 =>
   rw [hx] at h
   obtain rfl:=Option.some.inj h
   obtain ⟨e1,z1,q1,o1⟩:=hP 6 (Rd.bump z) r1 hl hc hx
   rw [q1]
   refine ⟨_,z1,rfl,o1.zl,fun hb=>?_,o1.bad⟩
   obtain ⟨d1,d2,d3,d4⟩:=o1.ok hb
   refine ⟨d1,d2,?_,bare_nd fun x hx=>?_⟩
   ·rw [noP_nd,noP_node]
    simp only [noPs,noP_nP,d3]
   ·simp only [List.mem_cons,List.not_mem_nil,or_false] at hx
    subst hx
    exact bare_nP d4
 unfold unX dp at h
 unfold Rd.unaryP
 rw [nx_eq hl hc,nx_eq hl hc]
 have hne:sgA l z.a [33]=true→sgA l z.a [45]=false:=fun h1=>by
  unfold sgA at h1 ⊢
  cases hk:(tokA l z.a).kind==4 with
  | false=>rfl
  | true =>
   rw [hk,cond_true,beq_iff_eq] at h1
   rw [cond_true,h1];rfl
 cases c1:sgA l z.a [33] with
 | true=>rw [c1,hne c1] at h;exact N 6 h
 | false =>
  rw [c1] at h
  cases c2:sgA l z.a [45] with
  | true=>rw [c2] at h;exact N 7 h
  | false =>
   rw [c2] at h
   simp only [cond_false] at h ⊢
   cases hx:P 7 z.a with
   | none=>rw [hx] at h;cases h
   | some r1 =>
    rw [hx] at h
    obtain rfl:=Option.some.inj h
    exact hP 7 z r1 hl hc hx
end
theorem str_beq (a b:Str):(KT.str.eq a b)=(b==a):=by
 show (a==b)=(b==a)
 cases h:b==a with
 | true=>rw [beq_iff_eq] at h;subst h;simp
 | false =>
  rw [beq_eq_false_iff_ne] at h ⊢
  exact fun h'=>h h'.symm
theorem lv_eq (k:Nat) (hk:k < 5) (s:Str):hasM (k:=.str) (v:=.int) (Rd.lvOps k) s=decide (opS (k+1) s > 0)∧(decide (opS (k+1) s > 0)=true→getM (k:=.str) (v:=.int) (Rd.lvOps k) s=opS (k+1) s):=by
 match k,hk with
 | 0,_=>simp only [Rd.lvOps,hasM,getM,opS,str_beq];cases s==[124,124]<;>decide
 | 1,_=>simp only [Rd.lvOps,hasM,getM,opS,str_beq];cases s==[38,38]<;>decide
 | 2,_ =>
  simp only [Rd.lvOps,hasM,getM,opS,str_beq]
  by_cases h1:s=[61,61]
  ·subst h1;decide
  by_cases h2:s=[33,61]
  ·subst h2;decide
  by_cases h3:s=[60]
  ·subst h3;decide
  by_cases h4:s=[60,61]
  ·subst h4;decide
  by_cases h5:s=[62]
  ·subst h5;decide
  by_cases h6:s=[62,61]
  ·subst h6;decide
  have f:∀x:Str,s≠x→(s==x)=false:=fun x h=>beq_eq_false_iff_ne.2 h
  rw [f _ h1,f _ h2,f _ h3,f _ h4,f _ h5,f _ h6]
  decide
 | 3,_=>simp only [Rd.lvOps,hasM,getM,opS,str_beq];cases s==[43]<;>cases s==[45]<;>decide
 | 4,_=>simp only [Rd.lvOps,hasM,getM,opS,str_beq];cases s==[42]<;>cases s==[47]<;>cases s==[37]<;>decide
end Go.Proofs.YtcgbgcconigdbaaGreatDoor.Eqv
namespace Go.Proofs.YtcgbgcconigdbaaGreatDoor.Eqv
open Go.Eng
set_option maxRecDepth 100000
theorem Ok.nP {l:List TokR} {r:PR} {e:ExprR} {z:Rd.Rdr} (h:Ok l r e z):Ok l r (Rd.nP e) z :=
 ⟨h.zl,fun hb=>by obtain ⟨a,b,c,d⟩:=h.ok hb;exact ⟨a,b,by rw [noP_nP,c],bare_nP d⟩,h.bad⟩
theorem c_false {z:Rd.Rdr} (h:z.c≠0):(z.c==0)=false:=beq_eq_false_iff_ne.2 h
theorem c_true {z:Rd.Rdr} (h:z.c=0):(z.c==0)=true:=beq_iff_eq.2 h
section
variable {l:List TokR} {P:Reads} {Q:Nat→Rd.Rdr→Rd.Got} (hP:DP l P Q)
theorem go_eq {k:Nat} (hk:k < 5) {z:Rd.Rdr} (hl:z.l=l) (hc:z.c=0):Rd.goLv k z=decide (opA (k+1) (tokA l z.a) > 0):=by
 unfold Rd.goLv opA
 rw [c_true hc,tok_eq hl,Bool.true_and]
 cases (tokA l z.a).kind==4 with
 | false=>rfl
 | true=>rw [Bool.true_and,cond_true,(lv_eq k hk _).1]
include hP
theorem lv_rnd {k:Nat} (hk:k < 5):∀(m M:Nat) (r:PR) (e:ExprR) (z:Rd.Rdr) (x:PR),m≤M→Ok l r e z→lvL l (k+1) P m r=some x→∃e' z',Rd.loopG Q k M e z=some (e',z')∧Ok l x e' z'
 | 0,_,_,_,_,_,_,_,h=>by cases h
 | m+1,0,_,_,_,_,hM,_,_=>by omega
 | m+1,M+1,r,e,z,x,hM,o,h=>by
  simp only [lvL,lvB,id,dp] at h
  simp only [Rd.loopG]
  cases c1:r.b.is with
  | true =>
   rw [c1] at h
   obtain rfl:=Option.some.inj h
   have:Rd.goLv k z=false:=by unfold Rd.goLv;rw [c_false (o.bad c1).2.1];rfl
   rw [this]
   exact ⟨e,z,rfl,o⟩
  | false =>
   obtain ⟨a1,a2,a3,a4⟩:=o.ok c1
   rw [c1] at h
   simp only [Bool.not_false,BEq.rfl,cond_true] at h
   rw [go_eq hk o.zl a1,a2]
   cases c2:decide (opA (k+1) (tokA l r.a) > 0) with
   | false =>
    rw [c2] at h
    obtain rfl:=Option.some.inj h
    exact ⟨e,z,rfl,o⟩
   | true =>
    rw [c2] at h
    simp only [cond_true] at h ⊢
    rw [←a2,←bump_a] at h
    cases hx:P (k+1+1) (Rd.bump z).a with
    | none=>rw [hx] at h;cases h
    | some r2 =>
     rw [hx] at h
     simp only [thn] at h
     obtain ⟨e2,z2,q2,o2⟩:=hP (k+2) (Rd.bump z) r2 o.zl a1 hx
     rw [q2]
     simp only [Rd.thenG]
     have on:Ok l ⟨nodeE (opA (k+1) (tokA l z.a)) [] [] [r.e,r2.e] (tokA l z.a).p,r2.a,r2.b⟩ (Rd.moreE k e e2 z) z2:=by
      refine ⟨o2.zl,fun hb=>?_,o2.bad⟩
      obtain ⟨d1,d2,d3,d4⟩:=o2.ok hb
      refine ⟨d1,d2,?_,bare_nd fun x hx=>?_⟩
      ·have hop:getM (k:=.str) (v:=.int) (Rd.lvOps k) (Rd.tokZ z).s=opA (k+1) (tokA l z.a):=by
        rw [←a2] at c2
        rw [tok_eq o.zl]
        unfold opA at c2 ⊢
        cases h4:(tokA l z.a).kind==4 with
        | false=>rw [h4] at c2;simp at c2
        | true=>rw [h4] at c2;exact (lv_eq k hk _).2 c2
       unfold Rd.moreE
       rw [noP_nd,noP_node,hop]
       simp only [noPs,noP_nP,a3,d3]
      ·simp only [List.mem_cons,List.not_mem_nil,or_false] at hx
       rcases hx with rfl | rfl
       ·exact bare_nP a4
       ·exact bare_nP d4
     cases c3:Nat.beq (k+1) 3 with
     | true =>
      rw [c3] at h
      obtain rfl:=Option.some.inj h
      have hk2:Nat.beq k 2=true:=c3
      rw [hk2]
      exact ⟨_,z2,rfl,on⟩
     | false =>
      rw [c3] at h
      have hk2:Nat.beq k 2=false:=c3
      rw [hk2]
      exact lv_rnd hk m M _ _ z2 x (by omega) on h
theorem lv_eqv {k:Nat} (hk:k < 5) {n M:Nat} (hM:n≤M) {z:Rd.Rdr} {r:PR} (hl:z.l=l) (hc:z.c=0) (h:lvX (k+1) z.a (dp P) (fun r K=>thn (lvL l (k+1) P n r) K) OM=some r):∃e z',(Rd.thenG (Q (k+2) z) fun e z'=>Rd.loopG Q k M (Rd.nP e) z')=some (e,z')∧Ok l r e z':=by
 unfold lvX dp at h
 cases hx:P (k+1+1) z.a with
 | none=>rw [hx] at h;cases h
 | some r1 =>
  rw [hx] at h
  simp only [thn] at h
  obtain ⟨e1,z1,q1,o1⟩:=hP (k+2) z r1 hl hc hx
  rw [q1]
  cases hy:lvL l (k+1) P n r1 with
  | none=>rw [hy] at h;cases h
  | some x =>
   rw [hy] at h
   obtain rfl:=Option.some.inj h
   exact lv_rnd hP hk n M r1 _ z1 x hM o1.nP hy
variable (hw:Wr Q) (hl2:l.length≤100000)
omit hP in
theorem post_wrong {M:Nat} (hM:1≤M) {e:ExprR} {z:Rd.Rdr} (hc:z.c≠0):Rd.postL Q M e z=some (e,z):=by
 obtain ⟨M,rfl⟩:∃j,M=j+1:=⟨M - 1,by omega⟩
 simp only [Rd.postL,c_false hc]
 rfl
omit hP in
include hl2 in
theorem two_on {a:Int} (h0:0≤a) (h1:a < (l.length:Int)):w64 (w64 (a+1)+1)=w64 (a+2):=by
 rw [w1_in l hl2 h0 (by omega),w1_in l hl2 (by omega) (by omega),w2_in l hl2 h0 (by omega)]
 omega
include hl2
theorem po_rnd:∀(m M:Nat) (r:PR) (e:ExprR) (z:Rd.Rdr) (x:Bool×PR),m+1≤M→Ok l r e z→postL l P m r=some x→∃e' z',Rd.postL Q M e z=some (e',z')∧Ok l x.2 e' z'
 | 0,_,_,_,_,_,_,_,h=>by cases h
 | m+1,0,_,_,_,_,hM,_,_=>by omega
 | m+1,M+1,r,e,z,x,hM,o,h=>by
  simp only [postL,postB,id,dp] at h
  simp only [Rd.postL]
  cases c1:r.b.is with
  | true =>
   rw [c1] at h
   obtain rfl:=Option.some.inj h
   rw [c_false (o.bad c1).2.1]
   exact ⟨e,z,rfl,o⟩
  | false =>
   obtain ⟨a1,a2,a3,a4⟩:=o.ok c1
   rw [c1] at h
   simp only [Bool.not_false,cond_true] at h
   rw [c_true a1,nx_eq o.zl a1,nx_eq o.zl a1,a2]
   simp only [cond_true]
   cases c2:sgA l r.a [46] with
   | true =>
    obtain ⟨i1,i2⟩:=sg_in c2
    rw [c2] at h
    simp only [cond_true] at h ⊢
    have ht:Rd.tokZ (Rd.bump z)=tokA l (w64 (r.a+1)):=by rw [tok_eq (l:=l) (z:=Rd.bump z) o.zl,bump_a,a2]
    rw [ht]
    cases c3:(tokA l (w64 (r.a+1))).kind != 1 with
    | true =>
     rw [c3] at h
     obtain rfl:=Option.some.inj h
     have hf:=Ok.fail (l:=l) (z:=Rd.bump z) o.zl a1 (tokA l (w64 (r.a+1))) ⟨r.e,r.a,wrongB (tokA l (w64 (r.a+1)))⟩ (Rd.ndE 3 (tokA l (w64 (r.a+1))).s [] [Rd.nP e]) rfl
     simp only [cond_true]
     have hb:=hf.bad rfl
     rw [post_wrong (by omega) (show (Rd.bump (Rd.failZ (Rd.bump z) (tokA l (w64 (r.a+1))).p)).c≠0 from hb.2.1)]
     exact ⟨_,_,rfl,hf.zl,fun h1=>(by cases h1),fun _=>hb⟩
    | false =>
     rw [c3] at h
     simp only [cond_false] at h ⊢
     refine po_rnd m M _ _ _ x (by omega) ⟨o.zl,fun _=>⟨a1,?_,?_,bare_nd fun x hx=>?_⟩,fun hb=>(by rw [c1] at hb;cases hb)⟩ h
     ·rw [bump_a,bump_a,a2]
      exact two_on hl2 i1 i2
     ·rw [noP_nd,noP_node]
      simp only [noPs,noP_nP,a3]
     ·simp only [List.mem_cons,List.not_mem_nil,or_false] at hx
      subst hx
      exact bare_nP a4
   | false =>
    rw [c2] at h
    simp only [cond_false] at h ⊢
    cases c3:sgA l r.a [91] with
    | false =>
     rw [c3] at h
     obtain rfl:=Option.some.inj h
     exact ⟨e,z,rfl,o⟩
    | true =>
     rw [c3] at h
     simp only [Bool.not_true,cond_false,cond_true] at h ⊢
     rw [←a2,←bump_a] at h
     cases hx:P 0 (Rd.bump z).a with
     | none=>rw [hx] at h;cases h
     | some r2 =>
      rw [hx] at h
      simp only [thn] at h
      obtain ⟨e2,z2,q2,o2⟩:=hP 0 (Rd.bump z) r2 o.zl a1 hx
      rw [q2]
      simp only [Rd.thenG]
      cases c4:r2.b.is with
      | true =>
       rw [c4] at h
       obtain rfl:=Option.some.inj h
       have hb:=(o2.bad c4).2.1
       rw [must_wrong hb,post_wrong (by omega) hb]
       exact ⟨_,z2,rfl,o2.wrong c4 _ _ rfl⟩
      | false =>
       rw [c4] at h
       obtain ⟨b1,b2,b3,b4⟩:=o2.ok c4
       simp only [cond_false] at h
       cases c5:sgA l r2.a [93] with
       | false =>
        rw [c5] at h
        obtain rfl:=Option.some.inj h
        rw [must_f (by rw [nx_eq o2.zl b1,b2,c5]),tok_eq o2.zl,b2]
        have hf:=Ok.fail (l:=l) (z:=z2) o2.zl b1 (tokA l r2.a) ⟨r.e,r2.a,wrongB (tokA l r2.a)⟩ (Rd.ndE 4 [] [] [Rd.nP e,Rd.nP e2]) rfl
        rw [post_wrong (by omega) (hf.bad rfl).2.1]
        exact ⟨_,_,rfl,hf⟩
       | true =>
        rw [c5] at h
        simp only [Bool.not_true,cond_false] at h
        rw [must_t (by rw [nx_eq o2.zl b1,b2,c5])]
        refine po_rnd m M _ _ _ x (by omega) ⟨o2.zl,fun _=>⟨b1,?_,?_,bare_nd fun x hx=>?_⟩,fun hb=>(by rw [c1] at hb;cases hb)⟩ h
        ·rw [bump_a,b2]
        ·rw [noP_nd,noP_node]
         simp only [noPs,noP_nP,a3,b3]
        ·simp only [List.mem_cons,List.not_mem_nil,or_false] at hx
         rcases hx with rfl | rfl
         ·exact bare_nP a4
         ·exact bare_nP b4
end
end Go.Proofs.YtcgbgcconigdbaaGreatDoor.Eqv
