/-
 THE DOCUMENT's READER IN BRACKETS: what begins something; all of it.
-/
import Derived.Test.YtcgbgcconigdbaaGreatDoorTotL
namespace Go.Proofs.YtcgbgcconigdbaaGreatDoor
open Go.Eng
mutual
def noP:ExprR→ExprR
 | ⟨op,s,s2,v,l,_⟩=>⟨op,s,s2,v,noPs l,p00⟩
def noPs:List ExprR→List ExprR
 | []=>[]
 | e::r=>noP e::noPs r
end
theorem noP_eq (e:ExprR):noP e=⟨e.op,e.s,e.s2,e.v,noPs e.l,p00⟩:=by
 obtain ⟨op,s,s2,v,l,p⟩:=e
 simp only [noP]
theorem noPs_app (l r:List ExprR):noPs (l++r)=noPs l++noPs r:=by
 induction l with
 | nil=>rfl
 | cons e l ih=>simp only [List.cons_append,noPs,ih]
theorem eszs_app (l r:List ExprR):eszs (l++r)=eszs l+eszs r:=by
 induction l with
 | nil=>simp [eszs]
 | cons e l ih=>simp only [List.cons_append,eszs,ih];omega
mutual
theorem esz_noP:∀e:ExprR,esz (noP e)=esz e
 | ⟨op,s,s2,v,l,p⟩=>by simp only [noP,esz,eszs_noP l]
theorem eszs_noP:∀l:List ExprR,eszs (noPs l)=eszs l
 | []=>rfl
 | e::r=>by simp only [noPs,eszs,esz_noP e,eszs_noP r]
end
theorem node_noP {op op':Int} {s s' s2 s2':Str} {l l':List ExprR} {p p':PosR} (h1:op'=op) (h2:s'=s) (h3:s2'=s2) (h4:noPs l'=noPs l):noP (nodeE op' s' s2' l' p')=noP (nodeE op s s2 l p):=by
 subst h1 h2 h3
 simp only [nodeE,noP,h4]
theorem node_sz (op:Int) (s s2:Str) (l:List ExprR) (p:PosR):esz (nodeE op s s2 l p)=1+eszs l:=by
 simp only [nodeE,esz]
theorem lit_sz (k i:Int) (s:Str) (p:PosR):esz (litE k i s p)=1:=by
 simp only [litE,esz,eszs]
structure Mirror (l1 l2:List TokR) (N:Int):Prop where
 n0:0≤N
 n1:N≤90000
 len:(l1.length:Int)=N+1
 kd:∀a,0≤a→a < N→(tokA l2 (a+1)).kind=(tokA l1 a).kind
 s:∀a,0≤a→a < N→(tokA l2 (a+1)).s=(tokA l1 a).s
 n:∀a,0≤a→a < N→(tokA l2 (a+1)).n=(tokA l1 a).n
 e1:(tokA l1 N).kind=0
 k2:(tokA l2 (N+1)).kind=4
 s2:(tokA l2 (N+1)).s=[41]
section
variable {l1 l2:List TokR} {N:Int} (M:Mirror l1 l2 N)
include M in
theorem kd_lt {a k:Int} (h:(tokA l1 a).kind=k) (hk:k≠0):0≤a∧a < N:=by
 have h1:=kd_in h hk
 have h2:=M.len
 refine ⟨h1.1,?_⟩
 rcases Int.lt_or_le a N with h3 | h3
 ·exact h3
 ·obtain rfl:a=N:=by omega
  rw [M.e1] at h
  exact absurd h.symm hk
include M in
theorem sg_lt {a:Int} {s:Str} (h:sgA l1 a s=true):0≤a∧a < N:=by
 unfold sgA at h
 cases hk:(tokA l1 a).kind==4 with
 | true=>exact kd_lt M (beq_iff_eq.1 hk) (by decide)
 | false=>rw [hk] at h;cases h
include M in
theorem wd_lt {a:Int} {s:Str} (h:wdA l1 a s=true):0≤a∧a < N:=by
 unfold wdA at h
 cases hk:(tokA l1 a).kind==1 with
 | true=>exact kd_lt M (beq_iff_eq.1 hk) (by decide)
 | false=>rw [hk] at h;cases h
include M in
theorem op_lt {a:Int} {lv:Nat} (h:opA lv (tokA l1 a) > 0):0≤a∧a < N:=by
 unfold opA at h
 cases hk:(tokA l1 a).kind==4 with
 | true=>exact kd_lt M (beq_iff_eq.1 hk) (by decide)
 | false=>rw [hk] at h;simp at h
include M in
theorem kd_eq {a:Int} (h0:0≤a) (h1:a≤N) {k:Int} (hk:k=1∨k=2∨k=3):((tokA l2 (a+1)).kind==k)=((tokA l1 a).kind==k):=by
 rcases Int.lt_or_le a N with h | h
 ·rw [M.kd a h0 h]
 ·obtain rfl:a=N:=by omega
  rw [M.e1,M.k2]
  rcases hk with rfl | rfl | rfl<;>rfl
include M in
theorem kn_eq {a:Int} (h0:0≤a) (h1:a≤N) {k:Int} (hk:k=1∨k=2∨k=3):((tokA l2 (a+1)).kind != k)=((tokA l1 a).kind != k):=by
 have:=kd_eq M h0 h1 hk
 unfold bne
 rw [this]
include M in
theorem sg_eq {a:Int} (h0:0≤a) (h1:a≤N) {s:Str} (hs:a < N∨s≠[41]):sgA l2 (a+1) s=sgA l1 a s:=by
 unfold sgA
 rcases Int.lt_or_le a N with h | h
 ·rw [M.kd a h0 h,M.s a h0 h]
 ·obtain rfl:a=N:=by omega
  rw [M.e1,M.k2,M.s2]
  have:(([41]:Str)==s)=false:=beq_eq_false_iff_ne.2 fun e=>(hs.resolve_left (by omega)) e.symm
  rw [this]
  rfl
include M in
theorem wd_eq {a:Int} (h0:0≤a) (h1:a≤N) (s:Str):wdA l2 (a+1) s=wdA l1 a s:=by
 unfold wdA
 rcases Int.lt_or_le a N with h | h
 ·rw [M.kd a h0 h,M.s a h0 h]
 ·obtain rfl:a=N:=by omega
  rw [M.e1,M.k2]
  rfl
theorem opS_41 (lv:Nat):opS lv [41]=0:=by
 unfold opS
 split<;>rfl
include M in
theorem op_eq {a:Int} (h0:0≤a) (h1:a≤N) (lv:Nat):opA lv (tokA l2 (a+1))=opA lv (tokA l1 a):=by
 unfold opA
 rcases Int.lt_or_le a N with h | h
 ·rw [M.kd a h0 h,M.s a h0 h]
 ·obtain rfl:a=N:=by omega
  rw [M.e1,M.k2,M.s2,opS_41]
  rfl
include M in
theorem w1_eq {a:Int} (h0:0≤a) (h1:a≤N+100):w64 (a+1)=a+1:=by have:=M.n1;exact wrap_in _ (by omega)
include M in
theorem w2_eq {a:Int} (h0:0≤a) (h1:a≤N+100):w64 (a+2)=a+2:=by have:=M.n1;exact wrap_in _ (by omega)
variable {W:Int→Int} (hW:∀a,W a+1≤W (a+1))
structure Same2 (N:Int) (W:Int→Int) (b:Int) (r1 r2:PR):Prop where
 g2:r2.b.is=false
 a:r2.a=r1.a+1
 lo:b≤r1.a
 hi:r1.a≤N
 e:noP r2.e=noP r1.e
 sz:(esz r1.e:Int)+W b≤W r1.a
def R2 (N:Int) (W:Int→Int) (b:Int) (x y:Option PR):Prop:=∀r1 r2,x=some r1→y=some r2→r1.b.is=false→Same2 N W b r1 r2
def BadO (x:Option PR):Prop:=∀r,x=some r→r.b.is=true
theorem BadO.r2 {b:Int} {x y:Option PR} (h:BadO x):R2 N W b x y:=fun r1 _ h1 _ hg=>by rw [h r1 h1] at hg;cases hg
theorem BadO.of {e:ExprR} {a:Int} {w:BadR} (h:w.is=true):BadO (some ⟨e,a,w⟩):=fun r hr=>by cases hr;exact h
theorem R2.thn {b c:Int} {x y:Option PR} {K1 K2:PR→Option PR} (h:R2 N W b x y) (hb:∀r,r.b.is=true→BadO (K1 r)) (hk:∀r1 r2,r1.b.is=false→Same2 N W b r1 r2→R2 N W c (K1 r1) (K2 r2)):R2 N W c (thn x K1) (thn y K2):=by
 cases x with
 | none=>intro r1 r2 h1;cases h1
 | some r1 =>
  cases y with
  | none=>intro s1 s2 _ h2;cases h2
  | some r2 =>
   cases hg:r1.b.is with
   | true=>exact (hb r1 hg).r2
   | false=>exact hk r1 r2 hg (h r1 r2 rfl rfl hg)
theorem BadO.thn {x:Option PR} {K:PR→Option PR} (h:BadO x) (hb:∀r,r.b.is=true→BadO (K r)):BadO (thn x K):=by
 cases x with
 | none=>intro r hr;cases hr
 | some r=>exact hb r (h r rfl)
include hW in
theorem W_le {a b:Int} (h:a≤b):W a+(b - a)≤W b:=by
 obtain ⟨n,rfl⟩:∃n:Nat,b=a+n:=⟨(b - a).toNat,by omega⟩
 induction n with
 | zero=>simp
 | succ n ih =>
  have h1:=ih (by omega)
  have h2:=hW (a+n)
  rw [show a+((n+1:Nat):Int)=a+n+1 by omega]
  omega
variable {P1 P2:Reads}
def RP (N:Int) (W:Int→Int) (P1 P2:Reads):Prop:=∀k a,0≤a→a≤N→R2 N W a (P1 k a) (P2 k (a+1))
include M hW in
theorem cond_r2 (hP:RP N W P1 P2) {a:Int} (h0:0≤a) (hN:a≤N):R2 N W a (condM l1 P1 a) (condM l2 P2 (a+1)):=by
 unfold condM condX dp orF
 refine (hP 1 a h0 hN).thn (fun r hr=>by rw [hr];exact BadO.of hr) fun r1 r2 g s=>?_
 have hr0:0≤r1.a:=by have:=s.lo;omega
 rw [g,s.g2,s.a,sg_eq M hr0 s.hi (.inr (by decide))]
 simp only [BEq.rfl,cond_true]
 cases c2:sgA l1 r1.a [63] with
 | false =>
  intro x y hx hy _
  obtain rfl:=Option.some.inj hx
  obtain rfl:=Option.some.inj hy
  exact s
 | true =>
 have hlt:=sg_lt M c2
 simp only [Bool.not_true,cond_false]
 rw [w1_eq M hr0 (by omega),w1_eq M (a:=r1.a+1) (by omega) (by omega)]
 refine (hP 0 (r1.a+1) (by omega) (by omega)).thn (fun r hr=>by rw [hr];exact BadO.of hr) fun x1 x2 gx sx=>?_
 have hx0:0≤x1.a:=by have:=sx.lo;omega
 rw [gx,sx.g2,sx.a,sg_eq M hx0 sx.hi (.inr (by decide))]
 simp only [cond_false]
 cases c3:sgA l1 x1.a [58] with
 | false=>exact (BadO.of rfl).r2
 | true =>
 have hlt2:=sg_lt M c3
 simp only [Bool.not_true,cond_false]
 rw [w1_eq M hx0 (by omega),w1_eq M (a:=x1.a+1) (by omega) (by omega)]
 refine (hP 0 (x1.a+1) (by omega) (by omega)).thn (fun r hr=>BadO.of hr) fun y1 y2 gy sy=>?_
 intro u v hu hv _
 obtain rfl:=Option.some.inj hu
 obtain rfl:=Option.some.inj hv
 have w1:=hW r1.a
 have w2:=hW x1.a
 have z1:=s.sz
 have z2:=sx.sz
 have z3:=sy.sz
 have q1:=s.lo
 have q2:=sx.lo
 have q3:=sy.lo
 refine ⟨sy.g2,sy.a,?_,sy.hi,node_noP rfl rfl rfl ?_,?_⟩
 ·show a≤y1.a;omega
 ·simp only [noPs,s.e,sx.e,sy.e]
 ·show ((esz (nodeE 21 [] [] [r1.e,x1.e,y1.e] _):Nat):Int)+W a≤W y1.a
  rw [node_sz]
  simp only [eszs]
  omega
include M hW in
theorem un_r2 (hP:RP N W P1 P2) {a:Int} (h0:0≤a) (hN:a≤N):R2 N W a (unX l1 a (dp P1) OM) (unX l2 (a+1) (dp P2) OM):=by
 unfold unX dp
 have Nn:∀op:Int,a < N→R2 N W a (thn (P1 6 (w64 (a+1))) fun x=>OM.n op [] [] [x.e] (tokA l1 a).p x.a x.b) (thn (P2 6 (w64 (a+1+1))) fun x=>OM.n op [] [] [x.e] (tokA l2 (a+1)).p x.a x.b):=by
  intro op h
  rw [w1_eq M h0 (by omega),w1_eq M (a:=a+1) (by omega) (by omega)]
  refine (hP 6 (a+1) (by omega) (by omega)).thn (fun r hr=>BadO.of hr) fun x1 x2 gx sx=>?_
  intro u v hu hv _
  obtain rfl:=Option.some.inj hu
  obtain rfl:=Option.some.inj hv
  have w1:=hW a
  have z1:=sx.sz
  have q1:=sx.lo
  refine ⟨sx.g2,sx.a,?_,sx.hi,node_noP rfl rfl rfl ?_,?_⟩
  ·show a≤x1.a;omega
  ·simp only [noPs,sx.e]
  ·show ((esz (nodeE op [] [] [x1.e] _):Nat):Int)+W a≤W x1.a
   rw [node_sz]
   simp only [eszs]
   omega
 simp only [sg_eq M h0 hN (s:=[33]) (.inr (by decide)),sg_eq M h0 hN (s:=[45]) (.inr (by decide))]
 cases c1:sgA l1 a [33] with
 | true =>
  have:=sg_lt M c1
  cases sgA l1 a [45] with
  | true=>exact Nn 7 this.2
  | false=>exact Nn 6 this.2
 | false =>
  cases c2:sgA l1 a [45] with
  | true=>exact Nn 7 (sg_lt M c2).2
  | false =>
   simp only [cond_false]
   refine (hP 7 a h0 hN).thn (fun r hr=>BadO.of (e:=r.e) (a:=r.a) hr) fun r1 r2 g s=>?_
   intro x y hx hy _
   obtain rfl:=Option.some.inj hx
   obtain rfl:=Option.some.inj hy
   exact s
theorem lv_bad {lv:Nat}:∀(m:Nat) (r:PR),r.b.is=true→BadO (lvL l1 lv P1 m r)
 | 0,_,_=>fun r hr=>by cases hr
 | m+1,r,h=>by
  unfold lvL lvB
  rw [h]
  exact BadO.of (e:=r.e) (a:=r.a) h
include M hW in
theorem lv_r2 (hP:RP N W P1 P2) {lv:Nat} {b:Int} (hb:0≤b):∀(m1 m2:Nat) (r1 r2:PR),r1.b.is=false→Same2 N W b r1 r2→R2 N W b (lvL l1 lv P1 m1 r1) (lvL l2 lv P2 m2 r2)
 | 0,_,_,_,_,_=>fun _ _ h=>by cases h
 | m1+1,0,_,_,_,_=>fun _ _ _ h=>by cases h
 | m1+1,m2+1,r1,r2,g,s=>by
  unfold lvL lvB dp
  have hr0:0≤r1.a:=by have:=s.lo;omega
  rw [g,s.g2,s.a]
  simp only [Bool.not_false,BEq.rfl,cond_true,id,op_eq M hr0 s.hi]
  cases c2:decide (opA lv (tokA l1 r1.a) > 0) with
  | false =>
   intro x y hx hy _
   obtain rfl:=Option.some.inj hx
   obtain rfl:=Option.some.inj hy
   exact s
  | true =>
  have hlt:=op_lt M (of_decide_eq_true c2)
  simp only [cond_true]
  rw [w1_eq M hr0 (by omega),w1_eq M (a:=r1.a+1) (by omega) (by omega)]
  refine (hP (lv+1) (r1.a+1) (by omega) (by omega)).thn (fun r hr=>?_) fun x1 x2 gx sx=>?_
  ·cases Nat.beq lv 3 with
   | true=>exact BadO.of hr
   | false=>exact lv_bad m1 _ hr
  ·have w1:=hW r1.a
   have z1:=s.sz
   have z2:=sx.sz
   have q1:=s.lo
   have q2:=sx.lo
   have hs:Same2 N W b ⟨nodeE (opA lv (tokA l1 r1.a)) [] [] [r1.e,x1.e] (tokA l1 r1.a).p,x1.a,x1.b⟩ ⟨nodeE (opA lv (tokA l1 r1.a)) [] [] [r2.e,x2.e] (tokA l2 (r1.a+1)).p,x2.a,x2.b⟩:=by
    refine ⟨sx.g2,sx.a,?_,sx.hi,node_noP rfl rfl rfl ?_,?_⟩
    ·show b≤x1.a;omega
    ·simp only [noPs,s.e,sx.e]
    ·show ((esz (nodeE _ [] [] [r1.e,x1.e] _):Nat):Int)+W b≤W x1.a
     rw [node_sz]
     simp only [eszs]
     omega
   cases Nat.beq lv 3 with
   | true =>
    intro x y hx hy _
    obtain rfl:=Option.some.inj hx
    obtain rfl:=Option.some.inj hy
    exact hs
   | false=>exact lv_r2 hP hb m1 m2 _ _ gx hs
theorem post_bad:∀(m:Nat) (r:PR),r.b.is=true→∀x,postL l1 P1 m r=some x→x.2.b.is=true
 | 0,_,_,_,h=>by cases h
 | m+1,r,h,x,hx=>by
  unfold postL postB at hx
  rw [h] at hx
  obtain rfl:=Option.some.inj hx
  exact h
def R2b (N:Int) (W:Int→Int) (b:Int) (x y:Option (Bool×PR)):Prop:=R2 N W b (x.map (·.2)) (y.map (·.2))
include M hW in
theorem post_r2 (hP:RP N W P1 P2) {b:Int} (hb:0≤b):∀(m1 m2:Nat) (r1 r2:PR),r1.b.is=false→Same2 N W b r1 r2→R2b N W b (postL l1 P1 m1 r1) (postL l2 P2 m2 r2)
 | 0,_,_,_,_,_=>fun _ _ h=>by cases h
 | m1+1,0,_,_,_,_=>fun _ _ _ h=>by cases h
 | m1+1,m2+1,r1,r2,g,s=>by
  have hr0:0≤r1.a:=by have:=s.lo;omega
  have q1:=s.lo
  have z1:=s.sz
  have same:∀f1 f2:Bool,R2b N W b (some (f1,r1)) (some (f2,r2)):=by
   intro f1 f2 x y hx hy _
   obtain rfl:=Option.some.inj hx
   obtain rfl:=Option.some.inj hy
   exact s
  have bad:∀(f:Bool) (e:ExprR) (a:Int) (w:BadR) (y:Option (Bool×PR)),w.is=true→R2b N W b (some (f,⟨e,a,w⟩)) y:=by
   intro f e a w y h
   exact (BadO.of h).r2
  unfold postL postB dp
  rw [g,s.g2,s.a]
  simp only [Bool.not_false,cond_true,id,sg_eq M hr0 s.hi (s:=[46]) (.inr (by decide)),sg_eq M hr0 s.hi (s:=[91]) (.inr (by decide))]
  cases c2:sgA l1 r1.a [46] with
  | true =>
   have hlt:=sg_lt M c2
   simp only [cond_true]
   rw [w1_eq M hr0 (by omega),w1_eq M (a:=r1.a+1) (by omega) (by omega),kn_eq M (a:=r1.a+1) (by omega) (by omega) (.inl rfl)]
   cases c3:(tokA l1 (r1.a+1)).kind != 1 with
   | true=>exact bad _ _ _ _ _ rfl
   | false =>
    have h3:=kd_lt M (a:=r1.a+1) (k:=1) (by simpa using c3) (by decide)
    rw [w2_eq M hr0 (by omega),w2_eq M (a:=r1.a+1) (by omega) (by omega),M.s _ h3.1 h3.2]
    have w1:=hW r1.a
    have w2:=hW (r1.a+1)
    rw [show r1.a+1+1=r1.a+2 by omega] at w2
    refine post_r2 hP hb m1 m2 _ _ g ⟨s.g2,?_,?_,?_,node_noP rfl rfl rfl ?_,?_⟩
    ·show r1.a+1+2=r1.a+2+1;omega
    ·show b≤r1.a+2;omega
    ·show r1.a+2≤N;omega
    ·simp only [noPs,s.e]
    ·show ((esz (nodeE 3 _ [] [r1.e] _):Nat):Int)+W b≤W (r1.a+2)
     rw [node_sz]
     simp only [eszs]
     omega
  | false =>
  simp only [cond_false]
  cases c4:sgA l1 r1.a [91] with
  | false=>exact same _ _
  | true =>
  have hlt:=sg_lt M c4
  simp only [Bool.not_true,cond_false]
  rw [w1_eq M hr0 (by omega),w1_eq M (a:=r1.a+1) (by omega) (by omega)]
  have hx:=hP 0 (r1.a+1) (by omega) (by omega)
  cases e1:P1 0 (r1.a+1) with
  | none=>exact fun _ _ h=>by cases h
  | some x1 =>
  cases e2:P2 0 (r1.a+1+1) with
  | none=>exact fun _ _ _ h=>by cases h
  | some x2 =>
  simp only [thn]
  cases c5:x1.b.is with
  | true=>exact bad _ _ _ _ _ c5
  | false =>
  have sx:=hx x1 x2 e1 e2 c5
  have hx0:0≤x1.a:=by have:=sx.lo;omega
  rw [sx.g2,sx.a,sg_eq M hx0 sx.hi (.inr (by decide))]
  simp only [cond_false]
  cases c6:sgA l1 x1.a [93] with
  | false=>exact bad _ _ _ _ _ rfl
  | true =>
  have h3:=sg_lt M c6
  simp only [Bool.not_true,cond_false]
  rw [w1_eq M hx0 (by omega),w1_eq M (a:=x1.a+1) (by omega) (by omega)]
  have w1:=hW r1.a
  have w2:=hW x1.a
  have z2:=sx.sz
  have q2:=sx.lo
  refine post_r2 hP hb m1 m2 _ _ g ⟨s.g2,?_,?_,?_,node_noP rfl rfl rfl ?_,?_⟩
  ·rfl
  ·show b≤x1.a+1;omega
  ·show x1.a+1≤N;omega
  ·simp only [noPs,s.e,sx.e]
  ·show ((esz (nodeE 4 [] [] [r1.e,x1.e] _):Nat):Int)+W b≤W (x1.a+1)
   rw [node_sz]
   simp only [eszs]
   omega
end
end Go.Proofs.YtcgbgcconigdbaaGreatDoor
namespace Go.Proofs.YtcgbgcconigdbaaGreatDoor
open Go.Eng
section
variable {l1 l2:List TokR} {N:Int} (M:Mirror l1 l2 N) {W:Int→Int} (hW:∀a,W a+1≤W (a+1)) {P1 P2:Reads} {T1 T2:Texts}
def RT (l1 l2:List TokR) (N:Int) (W:Int→Int) (T1 T2:Texts):Prop:=∀a,0≤a→a < N→(tokA l1 a).kind=3→∀x1 x2,T1 (tokA l1 a)=some x1→T2 (tokA l2 (a+1))=some x2→x1.2.is=false→x2.2.is=false∧noP x2.1=noP x1.1∧(esz x1.1:Int)+W a≤W (a+1)
def BadX (x:Option (Bool×PL)):Prop:=∀r,x=some r→r.1=true∧r.2.b.is=true
structure SameX (N:Int) (W:Int→Int) (b:Int) (x1 x2:Bool×PL):Prop where
 f:x2.1=false
 a:x2.2.a=x1.2.a+1
 lo:b≤x1.2.a
 hi:x1.2.a≤N
 e:noPs x2.2.l=noPs x1.2.l
 sz:(eszs x1.2.l:Int)+W b≤W x1.2.a
def R2X (N:Int) (W:Int→Int) (b:Int) (x y:Option (Bool×PL)):Prop:=∀x1 x2,x=some x1→y=some x2→(x1.1=true→x1.2.b.is=true)∧(x1.1=false→SameX N W b x1 x2)
theorem BadX.r2 {b:Int} {x y:Option (Bool×PL)} (h:BadX x):R2X N W b x y:=fun x1 _ h1 _=>⟨fun _=>(h x1 h1).2,fun hf=>by rw [(h x1 h1).1] at hf;cases hf⟩
theorem BadX.of {a:Int} {w:BadR} (h:w.is=true):BadX (some (true,⟨[],a,w⟩)):=fun r hr=>by cases hr;exact ⟨rfl,h⟩
include M in
theorem ex_end (hB:BadO (P1 0 N)) (e:Str):∀(m:Nat) (out:List ExprR),BadX (exL l1 e P1 T1 m out N)
 | 0,_=>fun r hr=>by cases hr
 | m+1,out=>by
  have hs:∀s,sgA l1 N s=false:=fun s=>by
   cases h:sgA l1 N s with
   | false=>rfl
   | true=>have:=(sg_lt M h).2;omega
  unfold exL exB
  rw [hs]
  simp only [Bool.not_false,cond_true]
  cases e==[125] with
  | true =>
   unfold keyX
   simp only [cond_true,M.e1]
   exact BadX.of rfl
  | false =>
   simp only [cond_false,dp]
   cases h:P1 0 N with
   | none=>exact fun r hr=>by cases hr
   | some r =>
    have:=hB r h
    simp only [thn]
    rw [this]
    exact BadX.of this
include M hW in
theorem ex_r2 (hP:RP N W P1 P2) (hT:RT l1 l2 N W T1 T2) (hB:BadO (P1 0 N)) (e:Str) {b:Int} (hb:0≤b):∀(m1 m2:Nat) (o1 o2:List ExprR) (a:Int),b≤a→a≤N→noPs o2=noPs o1→(eszs o1:Int)+W b≤W a →
  R2X N W b (exL l1 e P1 T1 m1 o1 a) (exL l2 e P2 T2 m2 o2 (a+1))
 | 0,_,_,_,_,_,_,_,_=>fun _ _ h=>by cases h
 | m1+1,0,_,_,_,_,_,_,_=>fun _ _ _ h=>by cases h
 | m1+1,m2+1,o1,o2,a,h1,h2,ho,hz=>by
  rcases Int.lt_or_le a N with hlt | hge
  ·
   have val:∀(o1 o2:List ExprR) (a':Int),b≤a'→a'≤N→noPs o2=noPs o1→(eszs o1:Int)+W b≤W a' →
     R2X N W b (thn (P1 0 a') fun r=>bif r.b.is then (some (true,⟨[],r.a,r.b⟩):Option (Bool×PL)) else bif !(sgA l1 r.a [44]) then some (false,⟨o1++[r.e],r.a,bad0⟩) else exL l1 e P1 T1 m1 (o1++[r.e]) (w64 (r.a+1)))
      (thn (P2 0 (a'+1)) fun r=>bif r.b.is then (some (true,⟨[],r.a,r.b⟩):Option (Bool×PL)) else bif !(sgA l2 r.a [44]) then some (false,⟨o2++[r.e],r.a,bad0⟩) else exL l2 e P2 T2 m2 (o2++[r.e]) (w64 (r.a+1))):=by
    intro o1 o2 a' k1 k2 ho hz
    have hx:=hP 0 a' (by omega) k2
    cases e1:P1 0 a' with
    | none=>exact fun _ _ h=>by cases h
    | some r1 =>
    cases e2:P2 0 (a'+1) with
    | none=>exact fun _ _ _ h=>by cases h
    | some r2 =>
    simp only [thn]
    cases c5:r1.b.is with
    | true=>exact (BadX.of c5).r2
    | false =>
    have s:=hx r1 r2 e1 e2 c5
    have hr0:0≤r1.a:=by have:=s.lo;omega
    have q1:=s.lo
    have z1:=s.sz
    have ho':noPs (o2++[r2.e])=noPs (o1++[r1.e]):=by rw [noPs_app,noPs_app,ho];simp only [noPs,s.e]
    have hz':(eszs (o1++[r1.e]):Int)+W b≤W r1.a:=by rw [eszs_app];simp only [eszs];omega
    rw [s.g2,s.a,sg_eq M hr0 s.hi (.inr (by decide))]
    simp only [cond_false]
    cases c2:sgA l1 r1.a [44] with
    | false =>
     intro x1 x2 hx hy
     obtain rfl:=Option.some.inj hx
     obtain rfl:=Option.some.inj hy
     exact ⟨(fun h=>by cases h),(fun _=>⟨rfl,rfl,(by show b≤r1.a;omega),s.hi,ho',hz'⟩)⟩
    | true =>
     have h3:=sg_lt M c2
     simp only [Bool.not_true,cond_false]
     rw [w1_eq M hr0 (by omega),w1_eq M (a:=r1.a+1) (by omega) (by omega)]
     have w1:=hW r1.a
     exact ex_r2 hP hT hB e hb m1 m2 _ _ (r1.a+1) (by omega) (by omega) ho' (by omega)
   unfold exL exB
   simp only [dp]
   rw [sg_eq M (by omega) h2 (.inl hlt)]
   cases c1:sgA l1 a e with
   | true =>
    intro x1 x2 hx hy
    obtain rfl:=Option.some.inj hx
    obtain rfl:=Option.some.inj hy
    exact ⟨(fun h=>by cases h),(fun _=>⟨rfl,rfl,h1,h2,ho,hz⟩)⟩
   | false =>
   simp only [Bool.not_false,cond_true]
   cases c2:e==[125] with
   | false=>exact val o1 o2 a h1 h2 ho hz
   | true =>
   simp only [cond_true]
   have key:∀k1 k2:ExprR,noP k2=noP k1→(esz k1:Int)+W a≤W (a+1) →
     R2X N W b (signX l1 (w64 (a+1)) (thn (P1 0 (w64 (w64 (a+1)+1))) fun r=>bif r.b.is then (some (true,⟨[],r.a,r.b⟩):Option (Bool×PL)) else bif !(sgA l1 r.a [44]) then some (false,⟨(o1++[k1])++[r.e],r.a,bad0⟩) else exL l1 e P1 T1 m1 ((o1++[k1])++[r.e]) (w64 (r.a+1))) fun x=>some (true,x))
      (signX l2 (w64 (a+1+1)) (thn (P2 0 (w64 (w64 (a+1+1)+1))) fun r=>bif r.b.is then (some (true,⟨[],r.a,r.b⟩):Option (Bool×PL)) else bif !(sgA l2 r.a [44]) then some (false,⟨(o2++[k2])++[r.e],r.a,bad0⟩) else exL l2 e P2 T2 m2 ((o2++[k2])++[r.e]) (w64 (r.a+1))) fun x=>some (true,x)):=by
    intro k1 k2 hk hks
    unfold signX
    rw [w1_eq M (a:=a) (by omega) (by omega),w1_eq M (a:=a+1) (by omega) (by omega),sg_eq M (a:=a+1) (by omega) (by omega) (.inr (by decide)),sg_eq M (a:=a+1) (by omega) (by omega) (.inr (by decide))]
    have go:a+1 < N→R2X N W b (thn (P1 0 (a+1+1)) fun r=>bif r.b.is then (some (true,⟨[],r.a,r.b⟩):Option (Bool×PL)) else bif !(sgA l1 r.a [44]) then some (false,⟨(o1++[k1])++[r.e],r.a,bad0⟩) else exL l1 e P1 T1 m1 ((o1++[k1])++[r.e]) (w64 (r.a+1)))
      (thn (P2 0 (w64 (a+1+1+1))) fun r=>bif r.b.is then (some (true,⟨[],r.a,r.b⟩):Option (Bool×PL)) else bif !(sgA l2 r.a [44]) then some (false,⟨(o2++[k2])++[r.e],r.a,bad0⟩) else exL l2 e P2 T2 m2 ((o2++[k2])++[r.e]) (w64 (r.a+1))):=by
     intro h
     rw [w1_eq M (a:=a+1+1) (by omega) (by omega)]
     have w1:=hW (a+1)
     exact val (o1++[k1]) (o2++[k2]) (a+1+1) (by omega) (by omega) (by rw [noPs_app,noPs_app,ho];simp only [noPs,hk]) (by rw [eszs_app];simp only [eszs];omega)
    cases c3:sgA l1 (a+1) [61] with
    | true=>exact go (sg_lt M c3).2
    | false =>
     simp only [Bool.not_false,BEq.rfl,cond_true]
     cases c4:sgA l1 (a+1) [58] with
     | false=>exact (BadX.of rfl).r2
     | true=>exact go (sg_lt M c4).2
   unfold keyX tx
   simp only
   rw [kn_eq M (by omega) h2 (.inl rfl),kn_eq M (by omega) h2 (.inr (.inr rfl)),kd_eq M (by omega) h2 (.inr (.inr rfl))]
   cases c3:(bif (tokA l1 a).kind != 1 then (tokA l1 a).kind != 3 else false) with
   | true=>exact (BadX.of rfl).r2
   | false =>
   simp only [cond_false]
   cases c4:(tokA l1 a).kind==3 with
   | false =>
    simp only [cond_false]
    have w1:=hW a
    refine key _ _ ?_ (by rw [lit_sz];omega)
    rw [M.s a (by omega) hlt]
    simp only [litE,noP]
   | true =>
    have ht:=hT a (by omega) hlt (beq_iff_eq.1 c4)
    simp only [cond_true]
    cases e1:T1 (tokA l1 a) with
    | none=>exact fun _ _ h=>by cases h
    | some x1 =>
    cases e2:T2 (tokA l2 (a+1)) with
    | none=>exact fun _ _ _ h=>by cases h
    | some x2 =>
    simp only [thn]
    cases c5:x1.2.is with
    | true=>exact (BadX.of c5).r2
    | false =>
     obtain ⟨t1,t2,t3⟩:=ht x1 x2 e1 e2 c5
     rw [t1]
     exact key _ _ t2 t3
  ·obtain rfl:a=N:=by omega
   exact (ex_end M hB e (m1+1) o1).r2
def R2L (N:Int) (W:Int→Int) (b:Int) (x y:Option PL):Prop:=∀r1 r2,x=some r1→y=some r2→r1.b.is=false→r2.b.is=false∧r2.a=r1.a+1∧b < r1.a∧r1.a≤N∧noPs r2.l=noPs r1.l∧(eszs r1.l:Int)+W b+1≤W r1.a
include M hW in
theorem exs_r2 (hP:RP N W P1 P2) (hT:RT l1 l2 N W T1 T2) (hB:BadO (P1 0 N)) (e:Str) {b:Int} (hb:0≤b) (hN:b≤N) (m1 m2:Nat):R2L N W b (exsM l1 P1 T1 m1 e b) (exsM l2 P2 T2 m2 e (b+1)):=by
 unfold exsM
 have hx:=ex_r2 M hW hP hT hB e hb m1 m2 [] [] b (Int.le_refl _) hN rfl (by simp [eszs])
 cases e1:exL l1 e P1 T1 m1 [] b with
 | none=>exact fun _ _ h=>by cases h
 | some x1 =>
 cases e2:exL l2 e P2 T2 m2 [] (b+1) with
 | none=>exact fun _ _ _ h=>by cases h
 | some x2 =>
 obtain ⟨g1,g2⟩:=hx x1 x2 e1 e2
 intro r1 r2 h1 h2 hg
 obtain rfl:=Option.some.inj h1
 obtain rfl:=Option.some.inj h2
 unfold exFin at hg ⊢
 cases c1:x1.1 with
 | true =>
  have:=g1 c1
  rw [c1,cond_true] at hg
  simp only [this] at hg
  cases hg
 | false =>
  have s:=g2 c1
  have hr0:0≤x1.2.a:=by have:=s.lo;omega
  rw [c1,cond_false] at hg
  rw [cond_false,s.f,cond_false,s.a]
  cases c2:sgA l1 x1.2.a e with
  | false=>rw [c2] at hg;cases hg
  | true =>
   have hlt:=sg_lt M c2
   rw [sg_eq M hr0 s.hi (.inl hlt.2),c2]
   simp only [Bool.not_true,cond_false]
   rw [w1_eq M hr0 (by omega),w1_eq M (a:=x1.2.a+1) (by omega) (by omega)]
   have w1:=hW x1.2.a
   have q1:=s.lo
   have z1:=s.sz
   exact ⟨rfl,rfl,by omega,by omega,s.e,by omega⟩
def fFin (l:List TokR) (op:Int) (e:Str) (p:PosR) (s s2:Str) (L:List ExprR) (a:Int):Option PR:=bif !(sgA l a e) then OM.g op s s2 L p a (wrongB (tokA l a)) else OM.g op s s2 L p (w64 (a+1)) bad0
def fIf (l:List TokR) (P:Reads) (op:Int) (e:Str) (p:PosR) (s s2:Str) (L:List ExprR) (a:Int):Option PR:=bif wdA l a [105,102] then thn (P 0 (w64 (a+1))) fun c=>bif c.b.is then OM.g op s s2 L p c.a c.b else fFin l op e p s s2 (L++[c.e]) c.a else fFin l op e p s s2 L a
def fOne (P:Reads) (op:Int) (p:PosR) (s s2:Str) (L:List ExprR) (a:Int) (K:List ExprR→Int→Option PR):Option PR:=thn (P 0 a) fun x=>bif x.b.is then (match L with
  | []=>OM.z op s s2 p x.a x.b
  | y::r=>OM.g op s s2 (y::r) p x.a x.b) else K (L++[x.e]) x.a
def fSg (l:List TokR) (op:Int) (p:PosR) (s s2:Str) (w:Str) (L:List ExprR) (a:Int) (K:List ExprR→Int→Option PR):Option PR:=bif !(sgA l a w) then OM.g op s s2 L p a (wrongB (tokA l a)) else K L (w64 (a+1))
def fIn (l:List TokR) (P:Reads) (op:Int) (e:Str) (p:PosR) (s s2:Str) (a:Int):Option PR:=bif !(wdA l a [105,110]) then OM.z op s s2 p a (wrongB (tokA l a)) else
  bif e==[125] then fOne P op p s s2 [] (w64 (a+1)) fun L a=>fSg l op p s s2 [58] L a fun L a=>fOne P op p s s2 L a fun L a=>fSg l op p s s2 [61,62] L a fun L a=>fOne P op p s s2 L a fun L a=>fIf l P op e p s s2 L a
  else fOne P op p s s2 [] (w64 (a+1)) fun L a=>fSg l op p s s2 [58] L a fun L a=>fOne P op p s s2 L a fun L a=>fIf l P op e p s s2 L a
theorem forY_eq (op:Int) (l:List TokR) (P:Reads) (a:Int) (e:Str) (p:PosR):forY op l a e p (dp P) OM =
  orF ((tokA l (w64 (a+1))).kind != 1) (resV (tokA l (w64 (a+1))).s) (OM.z op [] [] p a (wrongB (tokA l (w64 (a+1))))) (
  bif sgA l (w64 (a+2)) [44] then orF ((tokA l (w64 (w64 (a+2)+1))).kind != 1) (resV (tokA l (w64 (w64 (a+2)+1))).s) (OM.z op (tokA l (w64 (a+1))).s [] p (w64 (a+2)) (wrongB (tokA l (w64 (w64 (a+2)+1)))))
    (fIn l P op e p (tokA l (w64 (w64 (a+2)+1))).s (tokA l (w64 (a+1))).s (w64 (w64 (a+2)+2)))
   else fIn l P op e p (tokA l (w64 (a+1))).s [] (w64 (a+2))):=rfl
structure SameL (N:Int) (W:Int→Int) (b:Int) (L1 L2:List ExprR) (a:Int):Prop where
 lo:b≤a
 hi:a≤N
 e:noPs L2=noPs L1
 sz:(eszs L1:Int)+W b+1≤W a
variable {b:Int} (hb:0≤b) {op:Int} {p1 p2:PosR} {s s2:Str}
include M hW in
theorem fFin_r2 (e:Str) {L1 L2:List ExprR} {a:Int} (h:SameL N W b L1 L2 a):R2 N W b (fFin l1 op e p1 s s2 L1 a) (fFin l2 op e p2 s s2 L2 (a+1)):=by
 unfold fFin
 have q1:=h.lo
 have q2:=h.hi
 have q3:=h.sz
 cases c2:sgA l1 a e with
 | false=>exact (BadO.of rfl).r2
 | true =>
  have hlt:=sg_lt M c2
  rw [sg_eq M (by omega) h.hi (.inl hlt.2),c2]
  simp only [Bool.not_true,cond_false]
  rw [w1_eq M (by omega) (by omega),w1_eq M (a:=a+1) (by omega) (by omega)]
  have w1:=hW a
  intro u v hu hv _
  obtain rfl:=Option.some.inj hu
  obtain rfl:=Option.some.inj hv
  refine ⟨rfl,rfl,?_,?_,node_noP rfl rfl rfl h.e,?_⟩
  ·show b≤a+1;omega
  ·show a+1≤N;omega
  ·show ((esz (nodeE op s s2 L1 _):Nat):Int)+W b≤W (a+1)
   rw [node_sz]
   omega
include M hW hb in
theorem fIf_r2 (hP:RP N W P1 P2) (e:Str) {L1 L2:List ExprR} {a:Int} (h:SameL N W b L1 L2 a):R2 N W b (fIf l1 P1 op e p1 s s2 L1 a) (fIf l2 P2 op e p2 s s2 L2 (a+1)):=by
 unfold fIf
 have q1:=h.lo
 have q2:=h.hi
 have q3:=h.sz
 rw [wd_eq M (by omega) h.hi]
 cases c2:wdA l1 a [105,102] with
 | false=>exact fFin_r2 M hW e h
 | true =>
  have hlt:=wd_lt M c2
  simp only [cond_true]
  rw [w1_eq M (by omega) (by omega),w1_eq M (a:=a+1) (by omega) (by omega)]
  refine (hP 0 (a+1) (by omega) (by omega)).thn (fun r hr=>by rw [hr];exact BadO.of hr) fun x1 x2 gx sx=>?_
  rw [gx,sx.g2,sx.a]
  have w1:=hW a
  have z1:=sx.sz
  have q4:=sx.lo
  exact fFin_r2 M hW e ⟨by omega,sx.hi,by rw [noPs_app,noPs_app,h.e];simp only [noPs,sx.e],by rw [eszs_app];simp only [eszs];omega⟩
include hb in
theorem fOne_r2 (hP:RP N W P1 P2) {L1 L2:List ExprR} {a:Int} (h:SameL N W b L1 L2 a) {K1 K2:List ExprR→Int→Option PR} (hK:∀L1 L2 a,SameL N W b L1 L2 a→R2 N W b (K1 L1 a) (K2 L2 (a+1))):R2 N W b (fOne P1 op p1 s s2 L1 a K1) (fOne P2 op p2 s s2 L2 (a+1) K2):=by
 unfold fOne
 have q1:=h.lo
 have q3:=h.sz
 refine (hP 0 a (by omega) h.hi).thn (fun r hr=>?_) fun x1 x2 gx sx=>?_
 ·rw [hr]
  cases L1<;>exact BadO.of hr
 ·rw [gx,sx.g2,sx.a]
  have z1:=sx.sz
  have q4:=sx.lo
  exact hK _ _ _ ⟨by omega,sx.hi,by rw [noPs_app,noPs_app,h.e];simp only [noPs,sx.e],by rw [eszs_app];simp only [eszs];omega⟩
include M hW in
theorem fSg_r2 (w:Str) {L1 L2:List ExprR} {a:Int} (h:SameL N W b L1 L2 a) {K1 K2:List ExprR→Int→Option PR} (hK:∀L1 L2 a,SameL N W b L1 L2 a→R2 N W b (K1 L1 a) (K2 L2 (a+1))):R2 N W b (fSg l1 op p1 s s2 w L1 a K1) (fSg l2 op p2 s s2 w L2 (a+1) K2):=by
 unfold fSg
 have q1:=h.lo
 have q2:=h.hi
 have q3:=h.sz
 cases c2:sgA l1 a w with
 | false=>exact (BadO.of rfl).r2
 | true =>
  have hlt:=sg_lt M c2
  rw [sg_eq M (by omega) h.hi (.inl hlt.2),c2]
  simp only [Bool.not_true,cond_false]
  rw [w1_eq M (by omega) (by omega),w1_eq M (a:=a+1) (by omega) (by omega)]
  have w1:=hW a
  exact hK _ _ _ ⟨by omega,by omega,h.e,by omega⟩
include M hW hb in
theorem fIn_r2 (hP:RP N W P1 P2) (e:Str) {a:Int} (h1:b < a) (h2:a≤N):R2 N W b (fIn l1 P1 op e p1 s s2 a) (fIn l2 P2 op e p2 s s2 (a+1)):=by
 unfold fIn
 rw [wd_eq M (by omega) h2]
 cases c2:wdA l1 a [105,110] with
 | false=>exact (BadO.of rfl).r2
 | true =>
  have hlt:=wd_lt M c2
  simp only [Bool.not_true,cond_false]
  rw [w1_eq M (by omega) (by omega),w1_eq M (a:=a+1) (by omega) (by omega)]
  have w1:=W_le hW (show b≤a+1 by omega)
  have h0:SameL N W b [] [] (a+1):=⟨by omega,by omega,rfl,by simp only [eszs];omega⟩
  cases e==[125] with
  | true =>
   rw [cond_true,cond_true]
   refine fOne_r2 hb hP h0 ?_
   intro _ _ _ h
   refine fSg_r2 M hW _ h ?_
   intro _ _ _ h
   refine fOne_r2 hb hP h ?_
   intro _ _ _ h
   refine fSg_r2 M hW _ h ?_
   intro _ _ _ h
   refine fOne_r2 hb hP h ?_
   intro _ _ _ h
   exact fIf_r2 M hW hb hP e h
  | false =>
   rw [cond_false,cond_false]
   refine fOne_r2 hb hP h0 ?_
   intro _ _ _ h
   refine fSg_r2 M hW _ h ?_
   intro _ _ _ h
   refine fOne_r2 hb hP h ?_
   intro _ _ _ h
   exact fIf_r2 M hW hb hP e h
include M hW hb in
theorem for_r2 (hP:RP N W P1 P2) (e:Str) (hlt:b < N):R2 N W b (forY op l1 b e p1 (dp P1) OM) (forY op l2 (b+1) e p2 (dp P2) OM):=by
 rw [forY_eq,forY_eq]
 unfold orF
 rw [w1_eq M hb (by omega),w1_eq M (a:=b+1) (by omega) (by omega),kn_eq M (a:=b+1) (by omega) (by omega) (.inl rfl)]
 cases c1:(tokA l1 (b+1)).kind != 1 with
 | true=>exact (BadO.of rfl).r2
 | false =>
 have h1:=kd_lt M (a:=b+1) (k:=1) (by simpa using c1) (by decide)
 simp only [BEq.rfl,cond_true]
 rw [M.s _ h1.1 h1.2]
 cases resV (tokA l1 (b+1)).s with
 | true=>exact (BadO.of rfl).r2
 | false =>
 simp only [cond_false]
 rw [w2_eq M hb (by omega),w2_eq M (a:=b+1) (by omega) (by omega),show b+1+2=b+2+1 by omega,sg_eq M (a:=b+2) (by omega) (by omega) (.inr (by decide))]
 cases c2:sgA l1 (b+2) [44] with
 | false=>exact fIn_r2 M hW hb hP e (by omega) (by omega)
 | true =>
 have h2:=sg_lt M c2
 simp only [cond_true]
 rw [w1_eq M (a:=b+2) (by omega) (by omega),w1_eq M (a:=b+2+1) (by omega) (by omega),kn_eq M (a:=b+2+1) (by omega) (by omega) (.inl rfl)]
 cases c3:(tokA l1 (b+2+1)).kind != 1 with
 | true=>exact (BadO.of rfl).r2
 | false =>
 have h3:=kd_lt M (a:=b+2+1) (k:=1) (by simpa using c3) (by decide)
 simp only [BEq.rfl,cond_true]
 rw [M.s _ h3.1 h3.2]
 cases resV (tokA l1 (b+2+1)).s with
 | true=>exact (BadO.of rfl).r2
 | false =>
  simp only [cond_false]
  rw [w2_eq M (a:=b+2) (by omega) (by omega),w2_eq M (a:=b+2+1) (by omega) (by omega),show b+2+1+2=b+2+2+1 by omega]
  exact fIn_r2 M hW hb hP e (by omega) (by omega)
end
end Go.Proofs.YtcgbgcconigdbaaGreatDoor
namespace Go.Proofs.YtcgbgcconigdbaaGreatDoor
open Go.Eng
section
variable {l1 l2:List TokR} {N:Int} (M:Mirror l1 l2 N) {W:Int→Int} (hW:∀a,W a+1≤W (a+1)) {P1 P2:Reads} {T1 T2:Texts}
theorem R2L.thn {b c:Int} {x y:Option PL} {K1 K2:PL→Option PR} (h:R2L N W b x y) (hb:∀r,r.b.is=true→BadO (K1 r))
  (hk:∀r1 r2,r2.b.is=false∧r2.a=r1.a+1∧b < r1.a∧r1.a≤N∧noPs r2.l=noPs r1.l∧(eszs r1.l:Int)+W b+1≤W r1.a→R2 N W c (K1 r1) (K2 r2)):R2 N W c (thn x K1) (thn y K2):=by
 cases x with
 | none=>intro r1 r2 h1;cases h1
 | some r1 =>
  cases y with
  | none=>intro s1 s2 _ h2;cases h2
  | some r2 =>
   cases hg:r1.b.is with
   | true=>exact (hb r1 hg).r2
   | false=>exact hk r1 r2 (h r1 r2 rfl rfl hg)
include M hW in
theorem first_r2 (hP:RP N W P1 P2) (hT:RT l1 l2 N W T1 T2) (hB:BadO (P1 0 N)) {a:Int} (h0:0≤a) (hN:a≤N) (m1 m2:Nat):R2 N W a (firstM l1 P1 T1 m1 a) (firstM l2 P2 T2 m2 (a+1)):=by
 have lit:∀e1 e2:ExprR,a < N→noP e2=noP e1→esz e1=1→R2 N W a (some ⟨e1,w64 (a+1),bad0⟩) (some ⟨e2,w64 (a+1+1),bad0⟩):=by
  intro e1 e2 h he hs
  rw [w1_eq M h0 (by omega),w1_eq M (a:=a+1) (by omega) (by omega)]
  intro u v hu hv _
  obtain rfl:=Option.some.inj hu
  obtain rfl:=Option.some.inj hv
  have w1:=hW a
  refine ⟨rfl,rfl,?_,?_,he,?_⟩
  ·show a≤a+1;omega
  ·show a+1≤N;omega
  ·show (esz e1:Int)+W a≤W (a+1);omega
 have lst:∀(e:Str) (b:Int) (op:Int) (s1 s2:Str) (p1 p2:PosR),s2=s1→a≤b→b≤N→R2 N W a (thn (exsM l1 P1 T1 m1 e b) fun x=>OM.y op s1 [] x.l p1 x.a x.b) (thn (exsM l2 P2 T2 m2 e (b+1)) fun x=>OM.y op s2 [] x.l p2 x.a x.b):=by
  intro e b op s1 s2 p1 p2 hs h1 h2
  refine (exs_r2 M hW hP hT hB e (by omega) h2 m1 m2).thn (fun r hr=>BadO.of hr) fun r1 r2 ⟨q1,q2,q3,q4,q5,q6⟩=>?_
  intro u v hu hv _
  obtain rfl:=Option.some.inj hu
  obtain rfl:=Option.some.inj hv
  have w1:=W_le hW h1
  refine ⟨q1,q2,?_,q4,node_noP rfl hs rfl q5,?_⟩
  ·show a≤r1.a;omega
  ·show ((esz (nodeE op s1 [] r1.l _):Nat):Int)+W a≤W r1.a
   rw [node_sz]
   omega
 have fr:∀(e:Str) (b:Int) (p1 p2:PosR),(e=[93]∨e=[125])→a≤b→b < N→R2 N W a (thn (forM l1 P1 e b p1) OM.e) (thn (forM l2 P2 e (b+1) p2) OM.e):=by
  intro e b p1 p2 he h1 h2
  have hf:∃op,(∀l P b p,forM l P e b p=forY op l b e p (dp P) OM):=by
   rcases he with rfl | rfl
   ·exact ⟨24,fun _ _ _ _=>rfl⟩
   ·exact ⟨25,fun _ _ _ _=>rfl⟩
  obtain ⟨op,hf⟩:=hf
  rw [hf,hf]
  refine (for_r2 M hW (by omega) hP e h2).thn (fun r hr=>BadO.of (e:=r.e) (a:=r.a) hr) fun r1 r2 g s=>?_
  intro u v hu hv _
  obtain rfl:=Option.some.inj hu
  obtain rfl:=Option.some.inj hv
  have w1:=W_le hW h1
  have q1:=s.lo
  have q2:=s.sz
  exact ⟨s.g2,s.a,by omega,s.hi,s.e,by omega⟩
 unfold firstM firstX
 simp only
 rw [kd_eq M h0 hN (.inr (.inl rfl)),kd_eq M h0 hN (.inr (.inr rfl)),kd_eq M h0 hN (.inl rfl)]
 cases c1:(tokA l1 a).kind==2 with
 | true =>
  have hlt:=kd_lt M (beq_iff_eq.1 c1) (by decide)
  simp only [cond_true]
  rw [M.n a h0 hlt.2]
  exact lit _ _ hlt.2 (by simp only [litE,noP]) (lit_sz _ _ _ _)
 | false =>
 cases c2:(tokA l1 a).kind==3 with
 | true =>
  have hlt:=kd_lt M (beq_iff_eq.1 c2) (by decide)
  have ht:=hT a h0 hlt.2 (beq_iff_eq.1 c2)
  simp only [cond_true,cond_false,tx]
  rw [w1_eq M h0 (by omega),w1_eq M (a:=a+1) (by omega) (by omega)]
  cases e1:T1 (tokA l1 a) with
  | none=>exact fun _ _ h=>by cases h
  | some x1 =>
  cases e2:T2 (tokA l2 (a+1)) with
  | none=>exact fun _ _ _ h=>by cases h
  | some x2 =>
  intro u v hu hv hg
  obtain rfl:=Option.some.inj hu
  obtain rfl:=Option.some.inj hv
  obtain ⟨t1,t2,t3⟩:=ht x1 x2 e1 e2 hg
  refine ⟨t1,rfl,?_,?_,t2,t3⟩
  ·show a≤a+1;omega
  ·show a+1≤N;omega
 | false =>
 cases c3:(tokA l1 a).kind==1 with
 | true =>
  have hlt:=kd_lt M (beq_iff_eq.1 c3) (by decide)
  simp only [cond_true,cond_false]
  rw [M.s a h0 hlt.2]
  have lits:∀k i:Int,R2 N W a (OM.v k i [] (tokA l1 a).p (w64 (a+1)) bad0) (OM.v k i [] (tokA l2 (a+1)).p (w64 (a+1+1)) bad0):=fun k i=>lit _ _ hlt.2 (by simp only [litE,noP]) (lit_sz _ _ _ _)
  cases (tokA l1 a).s==[116,114,117,101] with
  | true=>exact lits 1 1
  | false =>
  cases (tokA l1 a).s==[102,97,108,115,101] with
  | true=>exact lits 1 0
  | false =>
  cases (tokA l1 a).s==[110,117,108,108] with
  | true=>exact lits 0 0
  | false =>
  cases resV (tokA l1 a).s with
  | true=>exact (BadO.of rfl).r2
  | false =>
  simp only [cond_false]
  rw [w1_eq M h0 (by omega),w1_eq M (a:=a+1) (by omega) (by omega),sg_eq M (a:=a+1) (by omega) (by omega) (.inr (by decide))]
  cases c4:sgA l1 (a+1) [40] with
  | false =>
   have:=lit (nodeE 2 (tokA l1 a).s [] [] (tokA l1 a).p) (nodeE 2 (tokA l1 a).s [] [] (tokA l2 (a+1)).p) hlt.2 (by simp only [nodeE,noP]) (by rw [node_sz];rfl)
   rw [w1_eq M h0 (by omega),w1_eq M (a:=a+1) (by omega) (by omega)] at this
   exact this
  | true =>
   have h4:=sg_lt M c4
   simp only [cond_true]
   rw [w2_eq M h0 (by omega),w2_eq M (a:=a+1) (by omega) (by omega),show a+1+2=a+2+1 by omega]
   exact lst [41] (a+2) 5 _ _ _ _ rfl (by omega) (by omega)
 | false =>
 simp only [cond_false]
 rw [sg_eq M h0 hN (s:=[40]) (.inr (by decide)),sg_eq M h0 hN (s:=[91]) (.inr (by decide)),sg_eq M h0 hN (s:=[123]) (.inr (by decide))]
 cases c4:sgA l1 a [40] with
 | true =>
  have h4:=sg_lt M c4
  simp only [cond_true,dp]
  rw [w1_eq M h0 (by omega),w1_eq M (a:=a+1) (by omega) (by omega)]
  refine (hP 0 (a+1) (by omega) (by omega)).thn (fun r hr=>by rw [hr];exact BadO.of hr) fun r1 r2 g s=>?_
  have q1:=s.lo
  have q2:=s.hi
  rw [g,s.g2,s.a]
  simp only [Bool.not_false,BEq.rfl,cond_true]
  cases c6:sgA l1 r1.a [41] with
  | false=>exact (BadO.of rfl).r2
  | true =>
   have h6:=sg_lt M c6
   rw [sg_eq M (a:=r1.a) (by omega) (by omega) (.inl h6.2),c6]
   simp only [Bool.not_true,cond_false]
   rw [w1_eq M (a:=r1.a) (by omega) (by omega),w1_eq M (a:=r1.a+1) (by omega) (by omega)]
   intro u v hu hv _
   obtain rfl:=Option.some.inj hu
   obtain rfl:=Option.some.inj hv
   have w1:=hW a
   have w2:=hW r1.a
   have z1:=s.sz
   refine ⟨s.g2,rfl,?_,?_,s.e,?_⟩
   ·show a≤r1.a+1;omega
   ·show r1.a+1≤N;omega
   ·show (esz r1.e:Int)+W a≤W (r1.a+1);omega
 | false =>
 simp only [cond_false]
 cases c5:sgA l1 a [91] with
 | true =>
  have h4:=sg_lt M c5
  simp only [cond_true]
  rw [w1_eq M h0 (by omega),w1_eq M (a:=a+1) (by omega) (by omega),wd_eq M (a:=a+1) (by omega) (by omega)]
  cases c6:wdA l1 (a+1) [102,111,114] with
  | true=>have h6:=wd_lt M c6;exact fr [93] (a+1) _ _ (.inl rfl) (by omega) h6.2
  | false=>exact lst [93] (a+1) 22 [] [] _ _ rfl (by omega) (by omega)
 | false =>
 simp only [cond_false]
 cases c6:sgA l1 a [123] with
 | false=>exact (BadO.of rfl).r2
 | true =>
  have h4:=sg_lt M c6
  simp only [cond_true]
  rw [w1_eq M h0 (by omega),w1_eq M (a:=a+1) (by omega) (by omega),wd_eq M (a:=a+1) (by omega) (by omega)]
  have E2:∀p1 p2,R2 N W a (thn (exsM l1 P1 T1 m1 [125] (a+1)) fun x=>OM.y 23 [] [] x.l p1 x.a x.b) (thn (exsM l2 P2 T2 m2 [125] (a+1+1)) fun x=>OM.y 23 [] [] x.l p2 x.a x.b):=fun p1 p2=>lst [125] (a+1) 23 [] [] p1 p2 rfl (by omega) (by omega)
  cases c7:wdA l1 (a+1) [102,111,114] with
  | false=>exact E2 _ _
  | true =>
  have h6:=wd_lt M c7
  simp only [BEq.rfl,cond_true]
  rw [w2_eq M h0 (by omega),w2_eq M (a:=a+1) (by omega) (by omega),show a+1+2=a+2+1 by omega,sg_eq M (a:=a+2) (s:=[61]) (by omega) (by omega) (.inr (by decide)),sg_eq M (a:=a+2) (s:=[58]) (by omega) (by omega) (.inr (by decide))]
  cases sgA l1 (a+2) [61] with
  | true=>exact E2 _ _
  | false =>
  simp only [Bool.not_false,BEq.rfl,cond_true]
  cases sgA l1 (a+2) [58] with
  | true=>exact E2 _ _
  | false=>exact fr [125] (a+1) _ _ (.inr rfl) (by omega) h6.2
include M in
theorem end_bad {T:Texts}:∀(n k:Nat),BadO (rdM l1 T n k N)
 | 0,_=>fun r h=>by cases h
 | n+1,k=>by
  have hs:∀s,sgA l1 N s=false:=fun s=>by
   cases h:sgA l1 N s with
   | false=>rfl
   | true=>have:=(sg_lt M h).2;omega
  have lvs:∀lv,BadO (thn (rdM l1 T n (lv+1) N) fun r=>thn (lvL l1 lv (rdM l1 T n) n r) OM.e):=by
   intro lv
   refine (end_bad n (lv+1)).thn fun r hr=>?_
   exact BadO.thn (lv_bad n r hr) fun r hr=>BadO.of (e:=r.e) (a:=r.a) hr
  match k with
  | 0 =>
   show BadO (condM l1 (rdM l1 T n) N)
   unfold condM condX dp orF
   refine (end_bad n 1).thn fun r hr=>?_
   rw [hr]
   exact BadO.of (e:=r.e) (a:=r.a) hr
  | 6 =>
   show BadO (unX l1 N (dp (rdM l1 T n)) OM)
   unfold unX dp
   simp only [hs,cond_false]
   exact (end_bad n 7).thn fun r hr=>BadO.of (e:=r.e) (a:=r.a) hr
  | 7 =>
   show BadO (postM l1 (rdM l1 T n) T n N)
   unfold postM
   refine BadO.thn ?_ fun r hr=>?_
   ·unfold firstM firstX
    simp only [hs,M.e1]
    exact BadO.of rfl
   ·intro x hx
    cases h:postL l1 (rdM l1 T n) n r with
    | none=>rw [h] at hx;cases hx
    | some y =>
     rw [h] at hx
     obtain rfl:=Option.some.inj hx
     exact post_bad n r hr y h
  | 1=>exact lvs 1
  | 2=>exact lvs 2
  | 3=>exact lvs 3
  | 4=>exact lvs 4
  | 5=>exact lvs 5
  | k+8=>exact fun r h=>by cases h
include M hW in
theorem rd_r2 (hT:RT l1 l2 N W T1 T2):∀(n1 n2:Nat),RP N W (rdM l1 T1 n1) (rdM l2 T2 n2)
 | 0,_=>fun _ _ _ _ _ _ h=>by cases h
 | n1+1,0=>fun _ _ _ _ _ _ _ h=>by cases h
 | n1+1,n2+1=>by
  have ih:=rd_r2 hT n1 n2
  intro k a h0 hN
  have lvs:∀lv,R2 N W a (thn (rdM l1 T1 n1 (lv+1) a) fun r=>thn (lvL l1 lv (rdM l1 T1 n1) n1 r) OM.e) (thn (rdM l2 T2 n2 (lv+1) (a+1)) fun r=>thn (lvL l2 lv (rdM l2 T2 n2) n2 r) OM.e):=by
   intro lv
   refine (ih (lv+1) a h0 hN).thn (fun r hr=>BadO.thn (lv_bad n1 r hr) fun r hr=>BadO.of (e:=r.e) (a:=r.a) hr) fun r1 r2 g s=>?_
   refine (lv_r2 M hW ih h0 n1 n2 r1 r2 g s).thn (fun r hr=>BadO.of (e:=r.e) (a:=r.a) hr) fun r1 r2 g s=>?_
   intro u v hu hv _
   obtain rfl:=Option.some.inj hu
   obtain rfl:=Option.some.inj hv
   exact s
  match k with
  | 0=>exact cond_r2 M hW ih h0 hN
  | 6=>exact un_r2 M hW ih h0 hN
  | 7 =>
   show R2 N W a (postM l1 (rdM l1 T1 n1) T1 n1 a) (postM l2 (rdM l2 T2 n2) T2 n2 (a+1))
   unfold postM
   refine (first_r2 M hW ih hT (end_bad M n1 0) h0 hN n1 n2).thn (fun r hr=>?_) fun r1 r2 g s=>?_
   ·intro x hx
    cases h:postL l1 (rdM l1 T1 n1) n1 r with
    | none=>rw [h] at hx;cases hx
    | some y =>
     rw [h] at hx
     obtain rfl:=Option.some.inj hx
     exact post_bad n1 r hr y h
   ·exact post_r2 M hW ih h0 n1 n2 r1 r2 g s
  | 1=>exact lvs 1
  | 2=>exact lvs 2
  | 3=>exact lvs 3
  | 4=>exact lvs 4
  | 5=>exact lvs 5
  | k+8=>exact fun _ _ h=>by cases h
end
end Go.Proofs.YtcgbgcconigdbaaGreatDoor
