/-
 THE DOCUMENT's READER ENDS on any text: of any text's tokens; plainly.
-/
import Derived.Test.YtcgbgcconigdbaaGreatDoorWholeD
namespace Go.Proofs.YtcgbgcconigdbaaGreatDoor
open Go.Eng
section
variable (l:List TokR) (hl:l.length≤100000)
theorem kd_in {l:List TokR} {a:Int} {k:Int} (h:(tokA l a).kind=k) (hk:k≠0):0≤a∧a < (l.length:Int):=by
 unfold tokA at h
 cases ho:outA l a with
 | true=>rw [ho] at h;exact absurd h.symm hk
 | false=>exact outA_f ho
theorem sg_in {l:List TokR} {a:Int} {s:Str} (h:sgA l a s=true):0≤a∧a < (l.length:Int):=by
 unfold sgA at h
 cases hk:(tokA l a).kind==4 with
 | true=>exact kd_in (beq_iff_eq.1 hk) (by decide)
 | false=>rw [hk] at h;cases h
theorem wd_in {l:List TokR} {a:Int} {s:Str} (h:wdA l a s=true):0≤a∧a < (l.length:Int):=by
 unfold wdA at h
 cases hk:(tokA l a).kind==1 with
 | true=>exact kd_in (beq_iff_eq.1 hk) (by decide)
 | false=>rw [hk] at h;cases h
theorem op_in {l:List TokR} {a:Int} {lv:Nat} (h:opA lv (tokA l a) > 0):0≤a∧a < (l.length:Int):=by
 unfold opA at h
 cases hk:(tokA l a).kind==4 with
 | true=>exact kd_in (beq_iff_eq.1 hk) (by decide)
 | false=>rw [hk] at h;simp at h
include hl in
theorem w1_in {a:Int} (h0:0≤a) (h1:a≤(l.length:Int)):w64 (a+1)=a+1:=wrap_in _ (by omega)
include hl in
theorem w2_in {a:Int} (h0:0≤a) (h1:a≤(l.length:Int)):w64 (a+2)=a+2:=wrap_in _ (by omega)
def Gon (b:Int) (r:PR):Prop:=r.b.is=false→b < r.a∧r.a≤(l.length:Int)
def Tot (b:Int) (x:Option PR):Prop:=∃r,x=some r∧Gon l b r
theorem Tot.bad {b:Int} {e:ExprR} {a:Int} {t:TokR}:Tot l b (some ⟨e,a,wrongB t⟩):=⟨_,rfl,fun h=>by cases h⟩
theorem Tot.is {b:Int} {r:PR} (h:r.b.is=true):Tot l b (some r):=⟨_,rfl,fun h'=>by rw [h] at h';cases h'⟩
variable {P:Reads}
include hl in
theorem cond_tot {a:Int} (ha:0≤a) (h1:Tot l a (P 1 a)) (h0:∀a',a < a'→a'≤(l.length:Int)→Tot l a' (P 0 a')):Tot l a (condM l P a):=by
 unfold condM condX dp orF
 obtain ⟨r,e1,g1⟩:=h1
 simp only [e1,thn]
 cases c1:r.b.is with
 | true=>exact Tot.is l c1
 | false =>
 obtain ⟨g1,g2⟩:=g1 c1
 simp only [BEq.rfl,cond_true]
 cases c2:sgA l r.a [63] with
 | false=>exact ⟨r,rfl,fun _=>⟨g1,g2⟩⟩
 | true =>
 have h2:=sg_in c2
 simp only [Bool.not_true,cond_false]
 rw [w1_in l hl h2.1 g2]
 obtain ⟨x,e2,g3⟩:=h0 (r.a+1) (by omega) (by omega)
 simp only [e2]
 cases c3:x.b.is with
 | true=>exact Tot.is l c3
 | false =>
 obtain ⟨g3,g4⟩:=g3 c3
 simp only [cond_false]
 cases c4:sgA l x.a [58] with
 | false=>exact Tot.bad l
 | true =>
 have h3:=sg_in c4
 simp only [Bool.not_true,cond_false]
 rw [w1_in l hl h3.1 g4]
 obtain ⟨y,e3,g5⟩:=h0 (x.a+1) (by omega) (by omega)
 simp only [e3]
 exact ⟨_,rfl,fun h=>⟨by have:=(g5 h).1;show a < y.a;omega,(g5 h).2⟩⟩
include hl in
theorem un_tot {a:Int} (ha:0≤a) (h7:Tot l a (P 7 a)) (h6:∀a',a < a'→a'≤(l.length:Int)→Tot l a' (P 6 a')):Tot l a (unX l a (dp P) OM):=by
 unfold unX dp
 have N:∀op:Int,0≤a∧a < (l.length:Int)→Tot l a (thn (P 6 (w64 (a+1))) fun x=>OM.n op [] [] [x.e] (tokA l a).p x.a x.b):=by
  intro op h
  rw [w1_in l hl h.1 (by omega)]
  obtain ⟨x,e1,g1⟩:=h6 (a+1) (by omega) (by omega)
  rw [e1]
  exact ⟨_,rfl,fun h=>⟨by have:=(g1 h).1;show a < x.a;omega,(g1 h).2⟩⟩
 simp only
 cases c1:sgA l a [33] with
 | true =>
  have:=sg_in c1
  cases sgA l a [45] with
  | true=>exact N 7 this
  | false=>exact N 6 this
 | false =>
  cases c2:sgA l a [45] with
  | true=>exact N 7 (sg_in c2)
  | false =>
   obtain ⟨r,e1,g1⟩:=h7
   simp only [cond_false,e1,thn]
   exact ⟨r,rfl,g1⟩
include hl in
theorem lv_tot {lv:Nat} {a:Int} (ha:0≤a) (h1:∀a',a < a'→a'≤(l.length:Int)→Tot l a' (P (lv+1) a')) :
  ∀(m:Nat) (r:PR),Gon l a r→(r.b.is=false→(l.length:Int) - r.a < m)→0 < m→Tot l a (lvL l lv P m r)
 | 0,_,_,_,h=>by omega
 | m+1,r,hr,hm,_=>by
  unfold lvL lvB dp
  cases c1:r.b.is with
  | true=>exact Tot.is l c1
  | false =>
  obtain ⟨g1,g2⟩:=hr c1
  have hm:=hm c1
  simp only [Bool.not_false,BEq.rfl,cond_true]
  cases c2:decide (opA lv (tokA l r.a) > 0) with
  | false=>exact ⟨r,rfl,hr⟩
  | true =>
  have h2:=op_in (of_decide_eq_true c2)
  simp only [cond_true]
  rw [w1_in l hl h2.1 g2]
  obtain ⟨x,e1,g3⟩:=h1 (r.a+1) (by omega) (by omega)
  simp only [e1,thn]
  have hx:Gon l a ⟨nodeE (opA lv (id (tokA l r.a))) [] [] [id r.e,id x.e] (tokA l r.a).p,x.a,x.b⟩:=fun h=>⟨by have:=(g3 h).1;show a < x.a;omega,(g3 h).2⟩
  cases Nat.beq lv 3 with
  | true=>exact ⟨_,rfl,hx⟩
  | false=>exact lv_tot ha h1 m _ hx (fun h=>by have:=(g3 h).1;show (l.length:Int) - x.a < m;omega) (by omega)
include hl in
theorem post_tot {a:Int} (ha:0≤a) (h0:∀a',a < a'→a'≤(l.length:Int)→Tot l a' (P 0 a')) :
  ∀(m:Nat) (r:PR),Gon l a r→(r.b.is=false→(l.length:Int) - r.a < m)→0 < m→∃x,postL l P m r=some x∧Gon l a x.2
 | 0,_,_,_,h=>by omega
 | m+1,r,hr,hm,_=>by
  unfold postL postB dp
  have bad:∀(f:Bool) (e:ExprR) (a':Int) (t:TokR),∃x,(some (f,(⟨e,a',wrongB t⟩:PR)):Option (Bool×PR))=some x∧Gon l a x.2:=fun f e a' t=>⟨_,rfl,fun h=>by cases h⟩
  cases c1:r.b.is with
  | true=>exact ⟨_,rfl,hr⟩
  | false =>
  obtain ⟨g1,g2⟩:=hr c1
  have hm:=hm c1
  simp only [Bool.not_false,cond_true]
  cases c2:sgA l r.a [46] with
  | true =>
   have h2:=sg_in c2
   simp only [cond_true]
   rw [w1_in l hl h2.1 g2]
   cases c3:(tokA l (r.a+1)).kind != 1 with
   | true=>exact bad _ _ _ _
   | false =>
    have h3:=kd_in (l:=l) (a:=r.a+1) (k:=1) (by simpa using c3) (by decide)
    rw [w2_in l hl h2.1 g2]
    refine post_tot ha h0 m _ (fun h=>⟨?_,?_⟩) (fun h=>?_) (by omega)
    ·show a < r.a+2;omega
    ·show r.a+2≤_;omega
    ·show (l.length:Int) - (r.a+2) < m;omega
  | false =>
  simp only [cond_false]
  cases c4:sgA l r.a [91] with
  | false=>exact ⟨_,rfl,hr⟩
  | true =>
  have h2:=sg_in c4
  simp only [Bool.not_true,cond_false]
  rw [w1_in l hl h2.1 g2]
  obtain ⟨x,e1,g3⟩:=h0 (r.a+1) (by omega) (by omega)
  simp only [e1,thn]
  cases c5:x.b.is with
  | true=>exact ⟨_,rfl,fun h=>by rw [show PR.b ⟨r.e,x.a,x.b⟩=x.b from rfl,c5] at h;cases h⟩
  | false =>
  obtain ⟨g3,g4⟩:=g3 c5
  simp only [cond_false]
  cases c6:sgA l x.a [93] with
  | false=>exact bad _ _ _ _
  | true =>
  have h3:=sg_in c6
  simp only [Bool.not_true,cond_false]
  rw [w1_in l hl h3.1 g4]
  refine post_tot ha h0 m _ (fun h=>⟨?_,?_⟩) (fun h=>?_) (by omega)
  ·show a < x.a+1;omega
  ·show x.a+1≤_;omega
  ·show (l.length:Int) - (x.a+1) < m;omega
variable {T:Texts}
def GonX (b:Int) (x:Bool×PL):Prop:=(x.1=true→x.2.b.is=true)∧(x.1=false→b≤x.2.a∧x.2.a≤(l.length:Int))
include hl in
theorem ex_tot {b:Int} (hb:0≤b) (e:Str) (h0:∀a',b≤a'→a'≤(l.length:Int)→Tot l a' (P 0 a')) (hT:∀a',(tokA l a').kind=3→∃x,T (tokA l a')=some x) :
  ∀(m:Nat) (out:List ExprR) (a:Int),b≤a→a≤(l.length:Int)→(l.length:Int) - a < m→∃x,exL l e P T m out a=some x∧GonX l b x
 | 0,_,_,_,_,h=>by omega
 | m+1,out,a,h1,h2,hm=>by
  have bad:∀(a':Int) (t:TokR),∃x,(some (true,(⟨[],a',wrongB t⟩:PL)):Option (Bool×PL))=some x∧GonX l b x:=fun a' t=>⟨_,rfl,fun _=>rfl,fun h=>by cases h⟩
  have isb:∀(a':Int) (w:BadR),w.is=true→∃x,(some (true,(⟨[],a',w⟩:PL)):Option (Bool×PL))=some x∧GonX l b x:=fun a' w hw=>⟨_,rfl,fun _=>hw,fun h=>by cases h⟩
  have val:∀(out:List ExprR) (a':Int),a≤a'→a'≤(l.length:Int)→∃x,(thn (P 0 a') fun r=>bif r.b.is then (some (true,⟨[],r.a,r.b⟩):Option (Bool×PL)) else bif !(sgA l r.a [44]) then some (false,⟨out++[r.e],r.a,bad0⟩) else exL l e P T m (out++[r.e]) (w64 (r.a+1)))=some x∧GonX l b x:=by
   intro out a' h3 h4
   obtain ⟨r,e1,g⟩:=h0 a' (by omega) h4
   simp only [e1,thn]
   cases c1:r.b.is with
   | true=>exact isb _ _ c1
   | false =>
   obtain ⟨g1,g2⟩:=g c1
   simp only [cond_false]
   cases c2:sgA l r.a [44] with
   | false=>exact ⟨_,rfl,(fun h=>absurd h (by simp)),(fun _=>⟨by show b≤r.a;omega,g2⟩)⟩
   | true =>
    have h5:=sg_in c2
    simp only [Bool.not_true,cond_false]
    rw [w1_in l hl h5.1 g2]
    exact ex_tot hb e h0 hT m _ (r.a+1) (by omega) (by omega) (by omega)
  unfold exL exB
  simp only [dp]
  cases c1:sgA l a e with
  | true=>exact ⟨_,rfl,(fun h=>absurd h (by simp)),(fun _=>⟨h1,h2⟩)⟩
  | false =>
  simp only [Bool.not_false,cond_true]
  cases c2:e==[125] with
  | false=>exact val out a (by omega) h2
  | true =>
  simp only [cond_true]
  have key:∀k:ExprR,0≤a∧a < (l.length:Int)→∃x,signX l (w64 (a+1)) (thn (P 0 (w64 (w64 (a+1)+1))) fun r=>bif r.b.is then (some (true,⟨[],r.a,r.b⟩):Option (Bool×PL)) else bif !(sgA l r.a [44]) then some (false,⟨(out++[k])++[r.e],r.a,bad0⟩) else exL l e P T m ((out++[k])++[r.e]) (w64 (r.a+1))) (fun x=>some (true,x))=some x∧GonX l b x:=by
   intro k hin
   unfold signX
   rw [w1_in l hl hin.1 h2]
   have go:0≤a+1∧a+1 < (l.length:Int)→∃x,(thn (P 0 (w64 (a+1+1))) fun r=>bif r.b.is then (some (true,⟨[],r.a,r.b⟩):Option (Bool×PL)) else bif !(sgA l r.a [44]) then some (false,⟨(out++[k])++[r.e],r.a,bad0⟩) else exL l e P T m ((out++[k])++[r.e]) (w64 (r.a+1)))=some x∧GonX l b x:=by
    intro h
    rw [w1_in l hl h.1 (by omega)]
    exact val (out++[k]) (a+1+1) (by omega) (by omega)
   cases c3:sgA l (a+1) [61] with
   | true=>exact go (sg_in c3)
   | false =>
    simp only [Bool.not_false,BEq.rfl,cond_true]
    cases c4:sgA l (a+1) [58] with
    | false=>exact bad _ _
    | true=>exact go (sg_in c4)
  unfold keyX tx
  simp only
  cases c3:(bif (tokA l a).kind != 1 then (tokA l a).kind != 3 else false) with
  | true=>exact bad _ _
  | false =>
  simp only [cond_false]
  have hin:0≤a∧a < (l.length:Int):=by
   cases c4:(tokA l a).kind != 1 with
   | false=>exact kd_in (k:=1) (by simpa using c4) (by decide)
   | true=>rw [c4,cond_true] at c3;exact kd_in (k:=3) (by simpa using c3) (by decide)
  cases c4:(tokA l a).kind==3 with
  | false=>exact key _ hin
  | true =>
   obtain ⟨x,hx⟩:=hT a (beq_iff_eq.1 c4)
   simp only [cond_true,hx,thn]
   cases c5:x.2.is with
   | true=>exact isb _ _ c5
   | false=>exact key _ hin
def TotL (b:Int) (x:Option PL):Prop:=∃r,x=some r∧(r.b.is=false→b≤r.a∧r.a≤(l.length:Int))
include hl in
theorem exs_tot {b:Int} (hb:0≤b) (e:Str) (h0:∀a',b≤a'→a'≤(l.length:Int)→Tot l a' (P 0 a')) (hT:∀a',(tokA l a').kind=3→∃x,T (tokA l a')=some x) (m:Nat) (h2:b≤(l.length:Int)) (hm:(l.length:Int) - b < m) :
  TotL l b (exsM l P T m e b):=by
 unfold exsM
 obtain ⟨x,e1,g1,g2⟩:=ex_tot l hl hb e h0 hT m [] b (by omega) h2 hm
 rw [e1]
 refine ⟨_,rfl,?_⟩
 unfold exFin
 obtain ⟨f,x⟩:=x
 cases f with
 | true=>intro h;rw [show PL.b (bif true then ⟨[],x.a,x.b⟩ else _)=x.b from rfl,g1 rfl] at h;cases h
 | false =>
  obtain ⟨g2,g3⟩:=g2 rfl
  simp only [cond_false]
  cases c1:sgA l x.a e with
  | false=>intro h;cases h
  | true =>
   have h5:=sg_in c1
   intro _
   simp only [Bool.not_true,cond_false]
   rw [w1_in l hl h5.1 g3]
   simp only at g2 ⊢
   omega
include hl in
theorem for_tot {op:Int} {a:Int} (ha:0≤a) (ha2:a < (l.length:Int)) (e:Str) (p:PosR) (h0:∀a',a < a'→a'≤(l.length:Int)→Tot l a' (P 0 a')):Tot l a (forY op l a e p (dp P) OM):=by
 have Fin:∀(s s2:Str) (L:List ExprR) (a':Int),a < a'→a'≤(l.length:Int)→Tot l a (bif !(sgA l a' e) then OM.g op s s2 L p a' (wrongB (tokA l a')) else OM.g op s s2 L p (w64 (a'+1)) bad0):=by
  intro s s2 L a' h1 h2
  cases c:sgA l a' e with
  | false=>exact Tot.bad l
  | true =>
   have h3:=sg_in c
   rw [w1_in l hl h3.1 h2]
   exact ⟨_,rfl,fun _=>⟨by show a < a'+1;omega,by show a'+1≤_;omega⟩⟩
 have If:∀(s s2:Str) (L:List ExprR) (a':Int),a < a'→a'≤(l.length:Int)→Tot l a (bif wdA l a' [105,102] then thn (P 0 (w64 (a'+1))) fun c=>bif c.b.is then OM.g op s s2 L p c.a c.b else (bif !(sgA l c.a e) then OM.g op s s2 (L++[c.e]) p c.a (wrongB (tokA l c.a)) else OM.g op s s2 (L++[c.e]) p (w64 (c.a+1)) bad0)
   else (bif !(sgA l a' e) then OM.g op s s2 L p a' (wrongB (tokA l a')) else OM.g op s s2 L p (w64 (a'+1)) bad0)):=by
  intro s s2 L a' h1 h2
  cases c:wdA l a' [105,102] with
  | false=>exact Fin s s2 L a' h1 h2
  | true =>
   have h3:=wd_in c
   rw [w1_in l hl h3.1 h2]
   obtain ⟨r,e1,g⟩:=h0 (a'+1) (by omega) (by omega)
   simp only [cond_true,e1,thn]
   cases c1:r.b.is with
   | true=>exact Tot.is l c1
   | false=>obtain ⟨g1,g2⟩:=g c1;exact Fin s s2 _ r.a (by omega) g2
 have One:∀(a':Int) (E K:PR→Option PR),a < a'→a'≤(l.length:Int)→(∀r,r.b.is=true→Tot l a (E r))→(∀r,r.b.is=false→a < r.a→r.a≤(l.length:Int)→Tot l a (K r))→Tot l a (thn (P 0 a') fun x=>bif x.b.is then E x else K x):=by
  intro a' E K h1 h2 hE hK
  obtain ⟨r,e1,g⟩:=h0 a' h1 h2
  simp only [e1,thn]
  cases c1:r.b.is with
  | true=>exact hE r c1
  | false=>obtain ⟨g1,g2⟩:=g c1;exact hK r c1 (by omega) g2
 have Sg:∀(s s2 w:Str) (L:List ExprR) (a':Int) (K:List ExprR→Int→Option PR),a < a'→a'≤(l.length:Int)→(∀L a',a < a'→a'≤(l.length:Int)→Tot l a (K L a'))→Tot l a (bif !(sgA l a' w) then OM.g op s s2 L p a' (wrongB (tokA l a')) else K L (w64 (a'+1))):=by
  intro s s2 w L a' K h1 h2 hK
  cases c:sgA l a' w with
  | false=>exact Tot.bad l
  | true =>
   have h3:=sg_in c
   simp only [Bool.not_true,cond_false]
   rw [w1_in l hl h3.1 h2]
   exact hK L (a'+1) (by omega) (by omega)
 have eg:∀(s s2:Str) (L:List ExprR) (r:PR),r.b.is=true→Tot l a (OM.g op s s2 L p r.a r.b):=fun s s2 L r h=>Tot.is l h
 have ez:∀(s s2:Str) (r:PR),r.b.is=true→Tot l a (OM.z op s s2 p r.a r.b):=fun s s2 r h=>Tot.is l h
 have In:∀(s s2:Str) (a':Int),a < a'→a'≤(l.length:Int)→Tot l a (bif !(wdA l a' [105,110]) then OM.z op s s2 p a' (wrongB (tokA l a')) else
   bif e==[125] then thn (P 0 (w64 (a'+1))) fun x=>bif x.b.is then OM.z op s s2 p x.a x.b else bif !(sgA l x.a [58]) then OM.g op s s2 [x.e] p x.a (wrongB (tokA l x.a)) else thn (P 0 (w64 (x.a+1))) fun y=>bif y.b.is then OM.g op s s2 [x.e] p y.a y.b else bif !(sgA l y.a [61,62]) then OM.g op s s2 [x.e,y.e] p y.a (wrongB (tokA l y.a)) else thn (P 0 (w64 (y.a+1))) fun z=>bif z.b.is then OM.g op s s2 [x.e,y.e] p z.a z.b else
     (bif wdA l z.a [105,102] then thn (P 0 (w64 (z.a+1))) fun c=>bif c.b.is then OM.g op s s2 [x.e,y.e,z.e] p c.a c.b else (bif !(sgA l c.a e) then OM.g op s s2 ([x.e,y.e,z.e]++[c.e]) p c.a (wrongB (tokA l c.a)) else OM.g op s s2 ([x.e,y.e,z.e]++[c.e]) p (w64 (c.a+1)) bad0)
      else (bif !(sgA l z.a e) then OM.g op s s2 [x.e,y.e,z.e] p z.a (wrongB (tokA l z.a)) else OM.g op s s2 [x.e,y.e,z.e] p (w64 (z.a+1)) bad0))
   else thn (P 0 (w64 (a'+1))) fun x=>bif x.b.is then OM.z op s s2 p x.a x.b else bif !(sgA l x.a [58]) then OM.g op s s2 [x.e] p x.a (wrongB (tokA l x.a)) else thn (P 0 (w64 (x.a+1))) fun y=>bif y.b.is then OM.g op s s2 [x.e] p y.a y.b else
     (bif wdA l y.a [105,102] then thn (P 0 (w64 (y.a+1))) fun c=>bif c.b.is then OM.g op s s2 [x.e,y.e] p c.a c.b else (bif !(sgA l c.a e) then OM.g op s s2 ([x.e,y.e]++[c.e]) p c.a (wrongB (tokA l c.a)) else OM.g op s s2 ([x.e,y.e]++[c.e]) p (w64 (c.a+1)) bad0)
      else (bif !(sgA l y.a e) then OM.g op s s2 [x.e,y.e] p y.a (wrongB (tokA l y.a)) else OM.g op s s2 [x.e,y.e] p (w64 (y.a+1)) bad0))):=by
  intro s s2 a' h1 h2
  cases c:wdA l a' [105,110] with
  | false=>exact Tot.bad l
  | true =>
   have h3:=wd_in c
   simp only [Bool.not_true,cond_false]
   rw [w1_in l hl h3.1 h2]
   cases e==[125] with
   | true=>exact One (a'+1) _ _ (by omega) (by omega) (ez s s2) fun x _ g1 g2=>Sg s s2 [58] [x.e] x.a _ g1 g2 fun L a1 k1 k2=>One a1 _ _ k1 k2 (eg s s2 [x.e]) fun y _ g3 g4=>Sg s s2 [61,62] [x.e,y.e] y.a _ g3 g4 fun L a2 k3 k4=>One a2 _ _ k3 k4 (eg s s2 [x.e,y.e]) fun z _ g5 g6=>If s s2 [x.e,y.e,z.e] z.a g5 g6
   | false=>exact One (a'+1) _ _ (by omega) (by omega) (ez s s2) fun x _ g1 g2=>Sg s s2 [58] [x.e] x.a _ g1 g2 fun L a1 k1 k2=>One a1 _ _ k1 k2 (eg s s2 [x.e]) fun y _ g3 g4=>If s s2 [x.e,y.e] y.a g3 g4
 unfold forY orF dp
 simp only [List.nil_append,List.cons_append]
 rw [w1_in l hl ha (by omega)]
 cases c1:(tokA l (a+1)).kind != 1 with
 | true=>exact Tot.bad l
 | false =>
 have h1:=kd_in (l:=l) (a:=a+1) (k:=1) (by simpa using c1) (by decide)
 simp only [BEq.rfl,cond_true]
 cases resV (tokA l (a+1)).s with
 | true=>exact Tot.bad l
 | false =>
 simp only [cond_false]
 rw [w2_in l hl ha (by omega)]
 cases c2:sgA l (a+2) [44] with
 | false=>exact In _ _ (a+2) (by omega) (by omega)
 | true =>
 have h2:=sg_in c2
 simp only [cond_true]
 rw [w1_in l hl h2.1 (by omega)]
 cases c3:(tokA l (a+2+1)).kind != 1 with
 | true=>exact Tot.bad l
 | false =>
 have h3:=kd_in (l:=l) (a:=a+2+1) (k:=1) (by simpa using c3) (by decide)
 simp only [BEq.rfl,cond_true]
 cases resV (tokA l (a+2+1)).s with
 | true=>exact Tot.bad l
 | false =>
  simp only [cond_false]
  rw [w2_in l hl h2.1 (by omega)]
  exact In _ _ (a+2+2) (by omega) (by omega)
include hl in
theorem first_tot {a:Int} (ha:0≤a) (ha2:a≤(l.length:Int)) (h0:∀a',a < a'→a'≤(l.length:Int)→Tot l a' (P 0 a')) (hT:∀a',(tokA l a').kind=3→∃x,T (tokA l a')=some x) (m:Nat) (hm:(l.length:Int) - a≤m) :
  Tot l a (firstM l P T m a):=by
 have lit:∀e:ExprR,0≤a∧a < (l.length:Int)→Tot l a (some ⟨e,w64 (a+1),bad0⟩):=by
  intro e h
  rw [w1_in l hl ha ha2]
  exact ⟨_,rfl,fun _=>⟨by show a < a+1;omega,by show a+1≤_;omega⟩⟩
 have lst:∀(e:Str) (b:Int) (K:PL→PR),a < b→b≤(l.length:Int)→(∀x,(K x).a=x.a∧(K x).b=x.b)→Tot l a (thn (exsM l P T m e b) fun x=>some (K x)):=by
  intro e b K h1 h2 hK
  obtain ⟨x,e1,g⟩:=exs_tot l hl (by omega) e (fun a' k1 k2=>h0 a' (by omega) k2) hT m h2 (by omega)
  rw [e1]
  refine ⟨_,rfl,fun h=>?_⟩
  rw [(hK x).2] at h
  rw [(hK x).1]
  have:=g h
  omega
 have fr:∀(e:Str) (b:Int) (p:PosR),(e=[93]∨e=[125])→a < b→b < (l.length:Int)→Tot l a (thn (forM l P e b p) OM.e):=by
  intro e b p he h1 h2
  have hf:∃op,forM l P e b p=forY op l b e p (dp P) OM:=by
   rcases he with rfl | rfl
   ·exact ⟨24,rfl⟩
   ·exact ⟨25,rfl⟩
  obtain ⟨op,hf⟩:=hf
  obtain ⟨r,e1,g⟩:=for_tot l hl (op:=op) (by omega) h2 e p (fun a' k1 k2=>h0 a' (by omega) k2)
  rw [hf,e1]
  exact ⟨r,rfl,fun h=>⟨by have:=(g h).1;omega,(g h).2⟩⟩
 unfold firstM firstX
 simp only
 cases c1:(tokA l a).kind==2 with
 | true=>exact lit _ (kd_in (beq_iff_eq.1 c1) (by decide))
 | false =>
 cases c2:(tokA l a).kind==3 with
 | true =>
  have hin:=kd_in (beq_iff_eq.1 c2) (by decide)
  obtain ⟨x,hx⟩:=hT a (beq_iff_eq.1 c2)
  simp only [cond_true,cond_false,tx,hx,thn]
  rw [w1_in l hl ha ha2]
  exact ⟨_,rfl,fun _=>⟨by show a < a+1;omega,by show a+1≤_;omega⟩⟩
 | false =>
 cases c3:(tokA l a).kind==1 with
 | true =>
  have hin:=kd_in (beq_iff_eq.1 c3) (by decide)
  simp only [cond_true,cond_false]
  cases (tokA l a).s==[116,114,117,101] with
  | true=>exact lit _ hin
  | false =>
  cases (tokA l a).s==[102,97,108,115,101] with
  | true=>exact lit _ hin
  | false =>
  cases (tokA l a).s==[110,117,108,108] with
  | true=>exact lit _ hin
  | false =>
  cases resV (tokA l a).s with
  | true=>exact Tot.bad l
  | false =>
  simp only [cond_false]
  cases c4:sgA l (w64 (a+1)) [40] with
  | false=>exact lit _ hin
  | true =>
   rw [w1_in l hl ha ha2] at c4
   have h4:=sg_in c4
   simp only [cond_true]
   rw [w2_in l hl ha ha2]
   exact lst [41] (a+2) (fun x=>⟨nodeE 5 (tokA l a).s [] x.l (tokA l a).p,x.a,x.b⟩) (by omega) (by omega) fun x=>⟨rfl,rfl⟩
 | false =>
 simp only [cond_false]
 cases c4:sgA l a [40] with
 | true =>
  have h4:=sg_in c4
  simp only [cond_true]
  rw [w1_in l hl ha ha2]
  obtain ⟨r,e1,g⟩:=h0 (a+1) (by omega) (by omega)
  simp only [dp,e1,thn]
  cases c5:r.b.is with
  | true =>
   simp only [Bool.not_true,show (false==true)=false from rfl,cond_false]
   exact Tot.is l c5
  | false =>
  obtain ⟨g1,g2⟩:=g c5
  simp only [Bool.not_false,BEq.rfl,cond_true]
  cases c6:sgA l r.a [41] with
  | false=>exact Tot.bad l
  | true =>
   have h6:=sg_in c6
   simp only [Bool.not_true,cond_false]
   rw [w1_in l hl h6.1 g2]
   exact ⟨_,rfl,fun _=>⟨by show a < r.a+1;omega,by show r.a+1≤_;omega⟩⟩
 | false =>
 simp only [cond_false]
 cases c5:sgA l a [91] with
 | true =>
  have h4:=sg_in c5
  simp only [cond_true]
  rw [w1_in l hl ha ha2]
  cases c6:wdA l (a+1) [102,111,114] with
  | true=>have h6:=wd_in c6;exact fr [93] (a+1) _ (.inl rfl) (by omega) h6.2
  | false=>exact lst [93] (a+1) (fun x=>⟨nodeE 22 [] [] x.l (tokA l a).p,x.a,x.b⟩) (by omega) (by omega) fun x=>⟨rfl,rfl⟩
 | false =>
 simp only [cond_false]
 cases c6:sgA l a [123] with
 | false=>exact Tot.bad l
 | true =>
  have h4:=sg_in c6
  simp only [cond_true]
  rw [w1_in l hl ha ha2]
  have E2:=lst [125] (a+1) (fun x=>⟨nodeE 23 [] [] x.l (tokA l a).p,x.a,x.b⟩) (by omega) (by omega) fun x=>⟨rfl,rfl⟩
  cases c7:wdA l (a+1) [102,111,114] with
  | false=>exact E2
  | true =>
  have h6:=wd_in c7
  simp only [BEq.rfl,cond_true]
  cases sgA l (w64 (a+2)) [61] with
  | true=>exact E2
  | false =>
  simp only [Bool.not_false,BEq.rfl,cond_true]
  cases sgA l (w64 (a+2)) [58] with
  | true=>exact E2
  | false=>exact fr [125] (a+1) _ (.inr rfl) (by omega) h6.2
include hl in
theorem rd_tot (hT:∀a',(tokA l a').kind=3→∃x,T (tokA l a')=some x):∀(n k:Nat) (a:Int),k≤7→0≤a→a≤(l.length:Int)→10 * ((l.length:Int) - a)+(8 - (k:Int)) < n→Tot l a (rdM l T n k a)
 | 0,k,a,_,_,_,h=>by omega
 | n+1,k,a,hk,ha,ha2,hn=>by
  have h0:∀(k':Nat),k'≤7→∀a',a < a'→a'≤(l.length:Int)→Tot l a' (rdM l T n k' a'):=fun k' hk' a' h1 h2=>rd_tot hT n k' a' hk' (by omega) h2 (by omega)
  have lvs:∀lv:Nat,1≤lv→lv≤5→10 * ((l.length:Int) - a)+(8 - (lv:Int)) < ((n+1:Nat):Int)→Tot l a (thn (rdM l T n (lv+1) a) fun r=>thn (lvL l lv (rdM l T n) n r) OM.e):=by
   intro lv h1 h2 h3
   obtain ⟨r,e1,g⟩:=rd_tot hT n (lv+1) a (by omega) ha ha2 (by omega)
   obtain ⟨x,e2,g2⟩:=lv_tot l hl ha (h0 (lv+1) (by omega)) n r g (fun h=>by have:=(g h).1;omega) (by omega)
   refine ⟨x,?_,g2⟩
   rw [e1]
   simp only [thn]
   rw [e2]
   rfl
  match k,hk with
  | 0,_=>exact cond_tot l hl ha (rd_tot hT n 1 a (by omega) ha ha2 (by omega)) (h0 0 (by omega))
  | 6,_=>exact un_tot l hl ha (rd_tot hT n 7 a (by omega) ha ha2 (by omega)) (h0 6 (by omega))
  | 7,_ =>
   show Tot l a (postM l (rdM l T n) T n a)
   unfold postM
   obtain ⟨r,e1,g⟩:=first_tot l hl ha ha2 (h0 0 (by omega)) hT n (by omega)
   obtain ⟨x,e2,g2⟩:=post_tot l hl ha (h0 0 (by omega)) n r g (fun h=>by have:=(g h).1;omega) (by omega)
   rw [e1]
   simp only [thn]
   rw [e2]
   exact ⟨x.2,rfl,g2⟩
  | 1,_=>exact lvs 1 (by omega) (by omega) (by omega)
  | 2,_=>exact lvs 2 (by omega) (by omega) (by omega)
  | 3,_=>exact lvs 3 (by omega) (by omega) (by omega)
  | 4,_=>exact lvs 4 (by omega) (by omega) (by omega)
  | 5,_=>exact lvs 5 (by omega) (by omega) (by omega)
end
end Go.Proofs.YtcgbgcconigdbaaGreatDoor
namespace Go.Proofs.YtcgbgcconigdbaaGreatDoor
open Go.Eng
def noQ (s:Str):Prop:=∀c∈s,c≠34
def okParts (l:List PartR):Prop:=∀x∈l,x.expr=true→noQ x.s
theorem byt_ne {s:Str} {i:Nat} {c:UInt8} (h:s[i]?=some c):byt s i=(c.toNat:Int):=by
 unfold byt
 rw [List.getD_eq_getElem?_getD,h];rfl
theorem piece_noQ (s:Str) (p:Nat):noQ (pieceR s p).s:=by
 intro c hc
 have hc:c∈(s.drop p).take (pcn s p):=hc
 obtain ⟨i,hi⟩:=List.mem_iff_getElem?.1 hc
 have hlt:i < pcn s p:=by
  rw [List.getElem?_take] at hi
  split at hi
  ·assumption
  ·cases hi
 rw [List.getElem?_take_of_lt hlt] at hi
 have h:=ff_at (p:=fun i=>!(isQ (byt (s.drop p) i))) hlt
 rw [byt_ne hi] at h
 rintro rfl
 exact absurd h (by decide)
theorem fl_ok {out:List PartR} {b:Str} (h:okParts out):okParts (fl out b):=by
 cases b with
 | nil=>exact h
 | cons x b =>
  intro y hy hye
  rcases List.mem_append.1 hy with hy | hy
  ·exact h y hy hye
  ·rw [List.mem_singleton] at hy;subst hy;cases hye
theorem bodyM_ok (s:Str):∀(n p:Nat) (out:List PartR) (b:Str),s.length - p=n→p≤s.length→okParts out→okParts (bodyM s p out b).l:=by
 intro n
 induction n using Nat.strongRecOn with
 | _ n ih =>
  intro p out b hn hp ho
  have nil:okParts []:=fun x hx=>by simp at hx
  rw [bodyM_eq]
  rcases Nat.lt_or_ge p s.length with h | h
  ·rw [blt_t h]
   simp only [Bool.not_true,cond_false]
   cases byt s p==34 with
   | true=>exact fl_ok ho
   | false =>
   cases byt s p==10 with
   | true=>exact nil
   | false =>
   cases byt s p==92 with
   | true =>
    simp only [cond_true,cond_false]
    rcases Nat.lt_or_ge (p+1) s.length with h2 | h2
    ·rw [blt_t h2]
     simp only [Bool.not_true,cond_false]
     cases escB (byt s (p+1)) with
     | true=>exact ih (s.length - (p+2)) (by omega) (p+2) out _ rfl (by omega) ho
     | false=>exact nil
    ·rw [blt_f (by omega)];exact nil
   | false =>
   cases h36:two s p 36 123 with
   | true =>
    simp only [cond_true,cond_false]
    have h1:=two_in h36 (by omega)
    cases hpc:pcOk s (p+2) with
    | true =>
     have hlt:=pcOk_lt hpc
     refine ih (s.length - (p+2+pcn s (p+2)+1)) (by omega) (p+2+pcn s (p+2)+1) _ [] rfl (by omega) ?_
     intro y hy hye
     rcases List.mem_append.1 hy with hy | hy
     ·exact fl_ok ho y hy hye
     ·rw [List.mem_singleton] at hy;subst hy;exact piece_noQ _ _
    | false=>exact nil
   | false=>exact ih (s.length - (p+1)) (by omega) (p+1) out _ rfl (by omega) ho
  ·rw [blt_f (by omega)];exact nil
def okTok (s:Str) (t:TokR):Prop:=t.kind=3→(okParts t.parts∧t.parts.length≤s.length+1)∧∃b,b < s.length∧byt s b=34
theorem tokO_ok {s:Str} {b:Nat} (hb:b≤s.length):okTok s (tokO s b).t:=by
 intro hk
 unfold tokO at hk ⊢
 cases h0:Nat.beq b s.length with
 | true=>simp only [h0,cond_true,tok0] at hk;cases hk
 | false =>
 have hlt:b < s.length:=by
  rcases Nat.lt_or_ge b s.length with h | h
  ·exact h
  ·obtain rfl:b=s.length:=by omega
   rw [Nat.beq_refl] at h0;cases h0
 simp only [h0,cond_false] at hk ⊢
 cases h1:letB (byt s b) with
 | true=>simp only [h1,cond_true,nameO] at hk;cases hk
 | false =>
 simp only [h1,cond_false] at hk ⊢
 cases h2:digB (byt s b) with
 | true=>simp only [h2,cond_true,numO] at hk;cases hk
 | false =>
 simp only [h2,cond_false] at hk ⊢
 cases h3:byt s b==34 with
 | true =>
  refine ⟨?_,b,hlt,beq_iff_eq.1 h3⟩
  have hl:=bodyM_many s _ (b+1) [] [] rfl (by omega)
  have ho:=bodyM_ok s _ (b+1) [] [] rfl (by omega) (fun x hx=>by simp at hx)
  simp only [cond_true]
  unfold textO
  cases (bodyM s (b+1) [] []).ok with
  | true=>exact ⟨ho,by simp only [List.length_nil] at hl;show (bodyM s (b+1) [] []).l.length≤_;omega⟩
  | false=>exact ⟨fun x hx=>by simp [tok0] at hx,by simp [tok0]⟩
 | false =>
  simp only [h3,cond_false] at hk
  unfold signO at hk
  split at hk
  ·cases h4:isOne (byt s b) with
   | true=>simp only [h4,cond_true] at hk;cases hk
   | false=>simp only [h4,cond_false] at hk;cases hk
  ·cases hk
theorem allK_toks (s:Str):∀(k p:Nat) (acc:List TokR),p≤s.length→s.length - p < k→(∀t∈acc,okTok s t)→acc.length≤p →
  (∀t∈(allK k s p acc).l,okTok s t)∧(allK k s p acc).l.length≤s.length+1∧((allK k s p acc).bad=0→0 < (allK k s p acc).l.length)
 | 0,p,acc,_,h,_,_=>by omega
 | k+1,p,acc,hp,hk,hacc,hlen=>by
  have hb:=blankM_in s _ p rfl hp
  have ht:=tokO_ok (s:=s) hb.2
  have hadd:∀t∈acc++[(tokO s (blankM s p)).t],okTok s t:=by
   intro t h
   rcases List.mem_append.1 h with h | h
   ·exact hacc t h
   ·rw [List.mem_singleton] at h;subst h;exact ht
  simp only [allK]
  cases he:(tokO s (blankM s p)).e==0 with
  | false =>
   refine ⟨fun t h=>by simp at h,by simp,fun h=>?_⟩
   rw [show (tokO s (blankM s p)).e=0 from h] at he
   simp at he
  | true =>
   obtain ⟨h1,_,h2⟩:=tokO_in hb.2 he
   simp only [Bool.not_true,cond_false]
   rcases h2 with ⟨h2,h3⟩ | ⟨h2,h3⟩
   ·rw [h2]
    exact ⟨hadd,by simp only [cond_true,List.length_append,List.length_singleton];omega,fun _=>by simp⟩
   ·rw [h2]
    exact allK_toks s k _ _ h1 (by omega) hadd (by rw [List.length_append,List.length_singleton];omega)
theorem allM_toks (s:Str):(∀t∈(allM s).l,okTok s t)∧(allM s).l.length≤32769∧((allM s).bad=0→0 < (allM s).l.length)∧((∃t,t∈(allM s).l)→s.length≤32768):=by
 unfold allM
 by_cases h:32768 < s.length
 ·rw [blt_t h]
  exact ⟨(fun t h=>by simp at h),(by simp),(fun h=>absurd h (by simp)),(fun ⟨t,h⟩=>by simp at h)⟩
 ·rw [blt_f h]
  obtain ⟨h1,h2,h3⟩:=allK_toks s (s.length+1) 0 [] (by omega) (by omega) (fun t h=>by simp at h) (by simp)
  exact ⟨h1,by simp only [cond_false];omega,h3,fun _=>by omega⟩
theorem tokA_mem {l:List TokR} {a:Int} (h:(tokA l a).kind≠0):tokA l a∈l:=by
 unfold tokA at h ⊢
 cases ho:outA l a with
 | true=>rw [ho] at h;exact absurd rfl h
 | false =>
  obtain ⟨h1,h2⟩:=outA_f ho
  have hlt:a.toNat < l.length:=by omega
  simp only [cond_false]
  rw [List.getD_eq_getElem?_getD,List.getElem?_eq_getElem hlt]
  exact List.getElem_mem hlt
theorem whole_tot {T:Texts} (s:Str) (hT:∀t∈(allM s).l,t.kind=3→∃x,T t=some x):∃x,wholeM (fun l=>rdM l T fuel) s=some x:=by
 obtain ⟨h1,h2,_,_⟩:=allM_toks s
 unfold wholeM
 cases (allM s).bad != 0 with
 | true=>exact ⟨_,rfl⟩
 | false =>
  obtain ⟨r,e,_⟩:=rd_tot (allM s).l (by omega) (fun a h=>hT _ (tokA_mem (by rw [h];decide)) h) fuel 0 0 (by omega) (by omega) (by omega) (by have:fuel=1000000:=rfl;omega)
  simp only [cond_false,e,thn]
  cases (badW (allM s).l r).is with
  | true=>exact ⟨_,rfl⟩
  | false=>exact ⟨_,rfl⟩
theorem W1_tot (s:Str) (h:noQ s):∃x,W1 s=some x:=by
 refine whole_tot s fun t ht hk=>?_
 obtain ⟨_,b,hb,hq⟩:=(allM_toks s).1 t ht hk
 have:=h s[b] (List.getElem_mem hb)
 rw [byt_ne (List.getElem?_eq_getElem hb)] at hq
 exact absurd (UInt8.toNat_inj.1 (show (s[b]).toNat=(34:UInt8).toNat by show _=34;omega)) this
theorem txL_tot (tp:PosR):∀(l:List PartR) (out:List ExprR),okParts l→∃x,txL W1 tp l out=some x
 | [],out,_=>⟨_,rfl⟩
 | p::r,out,h=>by
  have hr:okParts r:=fun x hx=>h x (List.mem_cons_of_mem _ hx)
  simp only [txL]
  cases c1:p.expr with
  | false=>exact txL_tot tp r _ hr
  | true =>
   obtain ⟨x,e⟩:=W1_tot p.s (h p List.mem_cons_self c1)
   simp only [Bool.not_true,cond_false,e,thn]
   cases x.c != 0 with
   | true=>exact ⟨_,rfl⟩
   | false=>exact txL_tot tp r _ hr
theorem T1_tot {s:Str} (t:TokR) (h:okTok s t) (hs:s.length≤32768) (hk:t.kind=3):∃x,T1 t=some x:=by
 obtain ⟨⟨h1,h2⟩,_⟩:=h hk
 unfold T1 textM
 rw [ble_t (show t.parts.length≤100000 by omega),cond_true]
 cases (t.parts.length:Int)==0 with
 | true=>exact ⟨_,rfl⟩
 | false =>
 cases (bif (t.parts.length:Int)==1 then !(pt t 0).expr else false) with
 | true=>exact ⟨_,rfl⟩
 | false =>
  obtain ⟨x,e⟩:=txL_tot t.p t.parts [] h1
  refine ⟨(nodeE 26 [] [] x.2.1 t.p,x.2.2),?_⟩
  simp only [cond_false,e,thn]
theorem W2_tot (s:Str):∃x,W2 s=some x:=whole_tot s fun t ht hk=>T1_tot t ((allM_toks s).1 t ht) ((allM_toks s).2.2.2 ⟨t,ht⟩) hk
theorem wholeM_zero {P:List TokR→Reads} {s:Str} {x:WR} (h:wholeM P s=some x) (hc:x.c=0):(allM s).bad=0:=by
 unfold wholeM at h
 cases hb:(allM s).bad==0 with
 | true=>exact beq_iff_eq.1 hb
 | false =>
  rw [show ((allM s).bad != 0)=true by rw [bne,hb];rfl,cond_true] at h
  obtain rfl:=Option.some.inj h
  exact hc
theorem parse_tot (s:Str):∃x,parseM W2 s=some x:=by
 obtain ⟨x,e⟩:=W2_tot s
 unfold parseM
 rw [e]
 simp only [thn]
 cases hc:x.c==0 with
 | false=>exact ⟨_,rfl⟩
 | true =>
  have hb:=wholeM_zero e (beq_iff_eq.1 hc)
  simp only [cond_true]
  cases decide (deepE x.e > 24) with
  | false=>exact ⟨_,rfl⟩
  | true=>exact ⟨_,by rw [blt_t ((allM_toks s).2.2.1 hb)];rfl⟩
def parseV (s:Str):WR:=prP (parseM W2 s)
end Go.Proofs.YtcgbgcconigdbaaGreatDoor
