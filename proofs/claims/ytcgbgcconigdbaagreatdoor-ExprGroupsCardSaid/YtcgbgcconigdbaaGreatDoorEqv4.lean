/-
 THE PROGRAM's READER AND THE DOCUMENT's: a for.
-/
import Derived.Test.YtcgbgcconigdbaaGreatDoorEqv2
namespace Go.Proofs.YtcgbgcconigdbaaGreatDoor.Eqv
open Go.Eng
set_option maxRecDepth 100000
structure OkL (l:List TokR) (r:PL) (e:List ExprR) (z:Rd.Rdr):Prop where
 zl:z.l=l
 ok:r.b.is=false→z.c=0∧z.a=r.a∧noPs e=noPs r.l∧∀x,x∈e→Bare x
 bad:r.b.is=true→z.c=r.b.c∧z.c≠0∧z.p=r.b.p
theorem OkL.of_bad {l:List TokR} {r:PR} {e:ExprR} {z:Rd.Rdr} (h:Ok l r e z) (hb:r.b.is=true) (r':PL) (e':List ExprR) (h':r'.b=r.b):OkL l r' e' z :=
 ⟨h.zl,fun h1=>(by rw [h',hb] at h1;cases h1),fun _=>by rw [h'];exact h.bad hb⟩
theorem OkL.wrong {l:List TokR} {r:PL} {e:List ExprR} {z:Rd.Rdr} (h:OkL l r e z) (hb:r.b.is=true) (r':PL) (e':List ExprR) (h':r'.b=r.b):OkL l r' e' z :=
 ⟨h.zl,fun h1=>(by rw [h',hb] at h1;cases h1),fun _=>by rw [h'];exact h.bad hb⟩
def stL (l:List TokR) (x:Bool×PL) (e:List ExprR) (z:Rd.Rdr):Prop:=(x.1=true→x.2.b.is=true∧OkL l x.2 e z)∧(x.1=false→z.l=l∧z.c=0∧z.a=x.2.a∧noPs e=noPs x.2.l∧∀y,y∈e→Bare y)
section
variable {l:List TokR} {P:Reads} {Q:Nat→Rd.Rdr→Rd.Got} {T:Texts} {TZ:Rd.Rdr→Rd.Got} (hP:DP l P Q) (hw:Wr Q) (hT:TP l T TZ)
theorem noPs_nP2 (k e:ExprR):noPs [Rd.nP k,Rd.nP e]=[noP k,noP e]:=by simp only [noPs,noP_nP]
theorem bare_app {a b:List ExprR} (h:∀y,y∈a→Bare y) (h':∀y,y∈b→Bare y):∀y,y∈a++b→Bare y:=fun y hy=>(List.mem_append.1 hy).elim (h y) (h' y)
theorem tail_eqv {one:Rd.Rdr→Rd.GotL} {end':Str} {m M:Nat} {x:Bool×PL}
  (ih:∀(out o2:List ExprR) (z:Rd.Rdr),z.l=l→z.c=0→noPs o2=noPs out→(∀y,y∈o2→Bare y)→exL l end' P T m out z.a=some x→∃e z',Rd.listL one end' M o2 z=some (e,z')∧stL l x e z')
  {r:PR} {e2:ExprR} {z2:Rd.Rdr} (o:Ok l r e2 z2) {out:List ExprR} {ls o2:List ExprR}
  (hls:noP e2=noP r.e→noPs (o2++ls)=noPs (out++[r.e])) (hbr:Bare e2→∀y,y∈o2++ls→Bare y)
  (h:(bif r.b.is then some (true,(⟨[],r.a,r.b⟩:PL)) else bif !(sgA l r.a [44]) then some (false,⟨out++[r.e],r.a,bad0⟩) else exL l end' P T m (out++[r.e]) (w64 (r.a+1)))=some x) :
  ∃e z',(bif Rd.nxZ z2 [44] then Rd.listL one end' M (o2++ls) (Rd.bump z2) else some (o2++ls,z2))=some (e,z')∧stL l x e z':=by
 cases c1:r.b.is with
 | true =>
  rw [c1] at h
  obtain rfl:=Option.some.inj h
  rw [nx_wrong (o.bad c1).2.1]
  exact ⟨_,z2,rfl,⟨fun _=>⟨c1,OkL.of_bad o c1 _ _ rfl⟩,fun h=>by cases h⟩⟩
 | false =>
  obtain ⟨a1,a2,a3,a4⟩:=o.ok c1
  rw [c1,cond_false] at h
  rw [nx_eq o.zl a1,a2]
  cases c2:sgA l r.a [44] with
  | false =>
   rw [c2] at h
   obtain rfl:=Option.some.inj h
   exact ⟨_,z2,rfl,⟨(fun h=>by cases h),fun _=>⟨o.zl,a1,a2,hls a3,hbr a4⟩⟩⟩
  | true =>
   rw [c2] at h
   simp only [Bool.not_true,cond_false,cond_true] at h ⊢
   rw [←a2,←bump_a] at h
   exact ih _ _ (Rd.bump z2) o.zl a1 (hls a3) (hbr a4) h
include hP in
theorem item_rnd {end':Str} (he:(end'==[125])=false):∀(m M:Nat) (out o2:List ExprR) (z:Rd.Rdr) (x:Bool×PL),m≤M→z.l=l→z.c=0→noPs o2=noPs out→(∀y,y∈o2→Bare y)→exL l end' P T m out z.a=some x→∃e z',Rd.listL (Rd.itemP Q) end' M o2 z=some (e,z')∧stL l x e z'
 | 0,_,_,_,_,_,_,_,_,_,_,h=>by cases h
 | m+1,0,_,_,_,_,hM,_,_,_,_,_=>by omega
 | m+1,M+1,out,o2,z,x,hM,hl,hc,ho,hb,h=>by
  simp only [exL,exB,dp,he,cond_false] at h
  simp only [Rd.listL]
  rw [c_true hc,nx_eq hl hc,cond_true]
  cases c1:sgA l z.a end' with
  | true =>
   rw [c1] at h
   obtain rfl:=Option.some.inj h
   exact ⟨o2,z,rfl,⟨(fun h=>by cases h),fun _=>⟨hl,hc,rfl,ho,hb⟩⟩⟩
  | false =>
   rw [c1] at h
   simp only [Bool.not_false,cond_true] at h ⊢
   cases hx:P 0 z.a with
   | none=>rw [hx] at h;cases h
   | some r =>
    rw [hx] at h
    simp only [thn] at h
    obtain ⟨e2,z2,q2,o⟩:=hP 0 z r hl hc hx
    unfold Rd.itemP
    rw [q2]
    simp only [Rd.thenG]
    refine tail_eqv (fun out o2 z h1 h2 h3 h4 h5=>item_rnd he m M out o2 z x (by omega) h1 h2 h3 h4 h5) o (fun h1=>?_) (fun h1=>bare_app hb fun y hy=>?_) h
    ·rw [noPs_app,noPs_app,ho]
     simp only [noPs,noP_nP,h1]
    ·rw [List.mem_singleton] at hy
     subst hy
     exact bare_nP h1
include hP hw hT in
theorem pair_rnd:∀(m M:Nat) (out o2:List ExprR) (z:Rd.Rdr) (x:Bool×PL),m≤M→z.l=l→z.c=0→noPs o2=noPs out→(∀y,y∈o2→Bare y)→exL l [125] P T m out z.a=some x→∃e z',Rd.listL (Rd.pairP Q TZ) [125] M o2 z=some (e,z')∧stL l x e z'
 | 0,_,_,_,_,_,_,_,_,_,_,h=>by cases h
 | m+1,0,_,_,_,_,hM,_,_,_,_,_=>by omega
 | m+1,M+1,out,o2,z,x,hM,hl,hc,ho,hb,h=>by
  simp only [exL,exB,dp,BEq.rfl,cond_true] at h
  simp only [Rd.listL]
  rw [c_true hc,nx_eq hl hc,cond_true]
  cases c1:sgA l z.a [125] with
  | true =>
   rw [c1] at h
   obtain rfl:=Option.some.inj h
   exact ⟨o2,z,rfl,⟨(fun h=>by cases h),fun _=>⟨hl,hc,rfl,ho,hb⟩⟩⟩
  | false =>
   rw [c1] at h
   simp only [Bool.not_false,cond_true] at h ⊢
   have sgn:∀(k ke:ExprR) (z1:Rd.Rdr),z1.l=l→z1.c=0→z1.a=w64 (z.a+1)→noP ke=noP k→Bare ke →
     signX l (w64 (z.a+1)) (thn (P 0 (w64 (w64 (z.a+1)+1))) fun r=>bif r.b.is then some (true,(⟨[],r.a,r.b⟩:PL)) else bif !(sgA l r.a [44]) then some (false,⟨out++[k]++[r.e],r.a,bad0⟩) else exL l [125] P T m (out++[k]++[r.e]) (w64 (r.a+1))) (fun y=>some (true,y))=some x →
     ∃e z',(Rd.thenG (Rd.thenG (Q 0 (bif Rd.nxZ z1 [61] then Rd.bump z1 else Rd.mustZ z1 [58])) fun e z2=>some ([Rd.nP ke,Rd.nP e],z2)) fun l z'=>bif Rd.nxZ z' [44] then Rd.listL (Rd.pairP Q TZ) [125] M (o2++l) (Rd.bump z') else some (o2++l,z'))=some (e,z')∧stL l x e z':=by
    intro k ke z1 l1 k1 a1 hk hbk h
    have go:(bif Rd.nxZ z1 [61] then Rd.bump z1 else Rd.mustZ z1 [58])=Rd.bump z1→(thn (P 0 (w64 (w64 (z.a+1)+1))) fun r=>bif r.b.is then some (true,(⟨[],r.a,r.b⟩:PL)) else bif !(sgA l r.a [44]) then some (false,⟨out++[k]++[r.e],r.a,bad0⟩) else exL l [125] P T m (out++[k]++[r.e]) (w64 (r.a+1)))=some x→∃e z',(Rd.thenG (Rd.thenG (Q 0 (bif Rd.nxZ z1 [61] then Rd.bump z1 else Rd.mustZ z1 [58])) fun e z2=>some ([Rd.nP ke,Rd.nP e],z2)) fun l z'=>bif Rd.nxZ z' [44] then Rd.listL (Rd.pairP Q TZ) [125] M (o2++l) (Rd.bump z') else some (o2++l,z'))=some (e,z')∧stL l x e z':=by
     intro hz h
     rw [hz]
     rw [←a1,←bump_a] at h
     cases hx:P 0 (Rd.bump z1).a with
     | none=>rw [hx] at h;cases h
     | some r =>
      rw [hx] at h
      simp only [thn] at h
      obtain ⟨e2,z2,q2,o⟩:=hP 0 (Rd.bump z1) r l1 k1 hx
      rw [q2]
      simp only [Rd.thenG]
      refine tail_eqv (fun out o2 z h1 h2 h3 h4 h5=>pair_rnd m M out o2 z x (by omega) h1 h2 h3 h4 h5) o (fun h1=>?_) (fun h1=>bare_app hb fun y hy=>?_) h
      ·rw [noPs_app,noPs_app,noPs_app,ho,noPs_nP2,hk,h1]
       simp only [noPs,List.append_assoc,List.singleton_append]
      ·simp only [List.mem_cons,List.not_mem_nil,or_false] at hy
       rcases hy with rfl | rfl
       ·exact bare_nP hbk
       ·exact bare_nP h1
    unfold signX at h
    cases c2:sgA l (w64 (z.a+1)) [61] with
    | true =>
     rw [c2] at h
     exact go (by rw [nx_eq l1 k1,a1,c2];rfl) h
    | false =>
     rw [c2] at h
     simp only [Bool.not_false,BEq.rfl,cond_true] at h
     cases c3:sgA l (w64 (z.a+1)) [58] with
     | true =>
      rw [c3] at h
      exact go (by rw [nx_eq l1 k1,a1,c2,cond_false,must_t (by rw [nx_eq l1 k1,a1,c3])]) h
     | false =>
      rw [c3] at h
      obtain rfl:=Option.some.inj h
      rw [nx_eq l1 k1,a1,c2,cond_false,must_f (by rw [nx_eq l1 k1,a1,c3]),tok_eq l1,a1]
      have hf:=Ok.fail (l:=l) (z:=z1) l1 k1 (tokA l (w64 (z.a+1))) ⟨k,0,wrongB (tokA l (w64 (z.a+1)))⟩ Rd.e00 rfl
      rw [hw 0 _ (hf.bad rfl).2.1]
      simp only [Rd.thenG]
      rw [nx_wrong (hf.bad rfl).2.1]
      exact ⟨_,_,rfl,⟨fun _=>⟨rfl,OkL.of_bad hf rfl _ _ rfl⟩,fun h=>by cases h⟩⟩
   unfold Rd.pairP Rd.keyP
   unfold keyX at h
   rw [tok_eq hl]
   cases c2:(tokA l z.a).kind==1 with
   | true =>
    have k1:(tokA l z.a).kind=1:=beq_iff_eq.1 c2
    have n1:((tokA l z.a).kind != 1)=false:=by rw [k1];rfl
    have n3:((tokA l z.a).kind==3)=false:=by rw [k1];rfl
    simp only [n1,n3,cond_false] at h
    simp only [cond_true,Rd.thenG]
    exact sgn _ _ (Rd.bump z) hl hc rfl (noP_lt 3 0 _ _) (bare_lt _ _ _) h
   | false =>
    have n1:((tokA l z.a).kind != 1)=true:=by rw [bne,c2];rfl
    cases c3:(tokA l z.a).kind==3 with
    | false =>
     have n3:((tokA l z.a).kind != 3)=true:=by rw [bne,c3];rfl
     simp only [n1,n3,cond_true] at h
     obtain rfl:=Option.some.inj h
     simp only [cond_false,Rd.thenG]
     have hf:=Ok.fail (l:=l) (z:=z) hl hc (tokA l z.a) ⟨Rd.e00,0,wrongB (tokA l z.a)⟩ Rd.e00 rfl
     have hb':=(hf.bad rfl).2.1
     rw [nx_wrong hb',cond_false,must_wrong hb',hw 0 _ hb']
     simp only []
     rw [nx_wrong hb']
     exact ⟨_,_,rfl,⟨fun _=>⟨rfl,OkL.of_bad hf rfl _ _ rfl⟩,fun h=>by cases h⟩⟩
    | true =>
     have n3:((tokA l z.a).kind != 3)=false:=by rw [bne,c3];rfl
     simp only [n1,n3,c3,cond_true,cond_false,tx] at h
     simp only [cond_false,cond_true]
     cases hx:T (tokA l z.a) with
     | none=>rw [hx] at h;cases h
     | some y =>
      obtain ⟨ye,yb⟩:=y
      rw [hx] at h
      simp only [thn] at h
      obtain ⟨e1,z1,q1,o1⟩:=hT z ye yb hl hc (beq_iff_eq.1 c3) hx
      rw [q1]
      simp only [Rd.thenG]
      cases c4:yb.is with
      | true =>
       rw [c4] at h
       obtain rfl:=Option.some.inj h
       have hb':=(o1.bad c4).2.1
       rw [nx_wrong hb',cond_false,must_wrong hb',hw 0 _ hb']
       simp only []
       rw [nx_wrong hb']
       exact ⟨_,_,rfl,⟨fun _=>⟨c4,OkL.of_bad o1 c4 _ _ rfl⟩,fun h=>by cases h⟩⟩
      | false =>
       rw [c4] at h
       obtain ⟨d1,d2,d3,d4⟩:=o1.ok c4
       exact sgn ye e1 z1 o1.zl d1 d2 d3 d4 h
theorem fin_eqv {end':Str} {x:Bool×PL} {e:List ExprR} {z:Rd.Rdr} (h:stL l x e z):OkL l (exFin l end' x) e (Rd.mustZ z end'):=by
 obtain ⟨f,p⟩:=x
 unfold exFin
 cases f with
 | true =>
  obtain ⟨hb,h1⟩:=h.1 rfl
  have hb:p.b.is=true:=hb
  rw [must_wrong (h1.bad hb).2.1]
  exact h1.wrong hb _ _ rfl
 | false =>
  obtain ⟨a1,a2,a3,a4,a5⟩:=h.2 rfl
  have a3:z.a=p.a:=a3
  show OkL l (bif !(sgA l p.a end') then _ else _) e _
  cases c1:sgA l p.a end' with
  | false =>
   rw [must_f (by rw [nx_eq a1 a2,a3,c1]),tok_eq a1,a3]
   exact OkL.of_bad (Ok.fail (l:=l) (z:=z) a1 a2 (tokA l p.a) ⟨Rd.e00,0,wrongB (tokA l p.a)⟩ Rd.e00 rfl) rfl _ _ rfl
  | true =>
   rw [must_t (by rw [nx_eq a1 a2,a3,c1])]
   exact ⟨a1,fun _=>⟨a2,by rw [bump_a,a3];rfl,a4,a5⟩,fun h=>by cases h⟩
include hP in
theorem items_eqv {end':Str} (he:(end'==[125])=false) {m M:Nat} (hM:m≤M) {z:Rd.Rdr} {x:PL} (hl:z.l=l) (hc:z.c=0) (h:exsM l P T m end' z.a=some x):∃e z',Rd.listP (Rd.itemP Q) M end' z=some (e,z')∧OkL l x e z':=by
 unfold exsM at h
 obtain ⟨y,hy,rfl⟩:=Option.map_eq_some_iff.1 h
 obtain ⟨e,z',q,s⟩:=item_rnd (T:=T) hP he m M [] [] z y hM hl hc rfl (fun y hy=>by cases hy) hy
 unfold Rd.listP
 rw [q]
 exact ⟨e,_,rfl,fin_eqv s⟩
include hP hw hT in
theorem pairs_eqv {m M:Nat} (hM:m≤M) {z:Rd.Rdr} {x:PL} (hl:z.l=l) (hc:z.c=0) (h:exsM l P T m [125] z.a=some x):∃e z',Rd.listP (Rd.pairP Q TZ) M [125] z=some (e,z')∧OkL l x e z':=by
 unfold exsM at h
 obtain ⟨y,hy,rfl⟩:=Option.map_eq_some_iff.1 h
 obtain ⟨e,z',q,s⟩:=pair_rnd hP hw hT m M [] [] z y hM hl hc rfl (fun y hy=>by cases hy) hy
 unfold Rd.listP
 rw [q]
 exact ⟨e,_,rfl,fin_eqv s⟩
end
end Go.Proofs.YtcgbgcconigdbaaGreatDoor.Eqv
namespace Go.Proofs.YtcgbgcconigdbaaGreatDoor.Eqv
open Go.Eng
set_option maxRecDepth 100000
structure KR (l:List TokR) (K:List ExprR→Int→Option PR) (G:List ExprR→Rd.Rdr→Rd.Got):Prop where
 go:∀L L' z r,z.l=l→z.c=0→noPs L'=noPs L→(∀y,y∈L'→Bare y)→K L z.a=some r→∃e z',G L' z=some (e,z')∧Ok l r e z'
 wr:∀L' z,z.c≠0→∃e,G L' z=some (e,z)
section
variable (l:List TokR) (P:Reads) (op:Int) (p:PosR) (end' s s2:Str)
def dFin (L:List ExprR) (a:Int):Option PR:=bif !(sgA l a end') then some ⟨nodeE op s s2 L p,a,wrongB (tokA l a)⟩ else some ⟨nodeE op s s2 L p,w64 (a+1),bad0⟩
def dIf (L:List ExprR) (a:Int):Option PR:=bif wdA l a [105,102] then thn (P 0 (w64 (a+1))) fun c=>bif c.b.is then some ⟨nodeE op s s2 L p,c.a,c.b⟩ else dFin l op p end' s s2 (L++[c.e]) c.a else dFin l op p end' s s2 L a
def dOne (K:List ExprR→Int→Option PR) (L:List ExprR) (a:Int):Option PR:=thn (P 0 a) fun x=>bif x.b.is then (match L with
  | []=>some ⟨nodeE op s s2 [] p,x.a,x.b⟩
  | y::r=>some ⟨nodeE op s s2 (y::r) p,x.a,x.b⟩) else K (L++[x.e]) x.a
def dSg (w:Str) (K:List ExprR→Int→Option PR) (L:List ExprR) (a:Int):Option PR:=bif !(sgA l a w) then some ⟨nodeE op s s2 L p,a,wrongB (tokA l a)⟩ else K L (w64 (a+1))
def dIn (K:List ExprR→Int→Option PR) (a:Int):Option PR:=bif !(wdA l a [105,110]) then some ⟨nodeE op s s2 [] p,a,wrongB (tokA l a)⟩ else K [] (w64 (a+1))
def k93:List ExprR→Int→Option PR:=dOne P op p s s2 (dSg l op p s s2 [58] (dOne P op p s s2 (dIf l P op p end' s s2)))
def k125:List ExprR→Int→Option PR:=dOne P op p s s2 (dSg l op p s s2 [58] (dOne P op p s s2 (dSg l op p s s2 [61,62] (dOne P op p s s2 (dIf l P op p end' s s2)))))
end
def dFor (l:List TokR) (op:Int) (p:PosR) (In:Str→Str→Int→Option PR) (a:Int):Option PR :=
 orF ((tokA l (w64 (a+1))).kind != 1) (resV (tokA l (w64 (a+1))).s) (some ⟨nodeE op [] [] [] p,a,wrongB (tokA l (w64 (a+1)))⟩) (
  bif sgA l (w64 (a+2)) [44] then orF ((tokA l (w64 (w64 (a+2)+1))).kind != 1) (resV (tokA l (w64 (w64 (a+2)+1))).s) (some ⟨nodeE op (tokA l (w64 (a+1))).s [] [] p,w64 (a+2),wrongB (tokA l (w64 (w64 (a+2)+1)))⟩)
    (In (tokA l (w64 (w64 (a+2)+1))).s (tokA l (w64 (a+1))).s (w64 (w64 (a+2)+2)))
   else In (tokA l (w64 (a+1))).s [] (w64 (a+2)))
theorem for93 (l:List TokR) (P:Reads) (a:Int) (p:PosR):forM l P [93] a p=dFor l 24 p (fun s s2=>dIn l 24 p s s2 (k93 l P 24 p [93] s s2)) a:=rfl
theorem for125 (l:List TokR) (P:Reads) (a:Int) (p:PosR):forM l P [125] a p=dFor l 25 p (fun s s2=>dIn l 25 p s s2 (k125 l P 25 p [125] s s2)) a:=rfl
theorem resV_eq (s:Str):Rd.resV s=resV s:=by
 unfold Rd.resV resV
 cases s==[116,114,117,101]<;>cases s==[102,97,108,115,101]<;>cases s==[110,117,108,108]<;>cases s==[102,111,114]<;>cases s==[105,110]<;>cases s==[105,102]<;>rfl
section
variable {l:List TokR} {P:Reads} {Q:Nat→Rd.Rdr→Rd.Got} (hP:DP l P Q) (hw:Wr Q) {op:Int} {p:PosR} {end' s s2:Str}
theorem node_ok {L L':List ExprR} (hn:noPs L'=noPs L):noP (Rd.ndE op s s2 L')=noP (nodeE op s s2 L p):=by rw [noP_nd,noP_node,hn]
theorem fin_k:KR l (dFin l op p end' s s2) (fun L z=>some (Rd.ndE op s s2 L,Rd.mustZ z end')) where
 go:=fun L L' z r hl hc hn hb h=>by
  unfold dFin at h
  cases c1:sgA l z.a end' with
  | false =>
   rw [c1] at h
   obtain rfl:=Option.some.inj h
   rw [must_f (by rw [nx_eq hl hc,c1]),tok_eq hl]
   exact ⟨_,_,rfl,Ok.fail hl hc _ _ _ rfl⟩
  | true =>
   rw [c1] at h
   obtain rfl:=Option.some.inj h
   rw [must_t (by rw [nx_eq hl hc,c1])]
   exact ⟨_,_,rfl,hl,fun _=>⟨hc,rfl,node_ok hn,bare_nd hb⟩,fun h=>by cases h⟩
 wr:=fun L' z hc=>⟨Rd.ndE op s s2 L',by rw [must_wrong hc]⟩
include hP hw in
theorem one_k {K:List ExprR→Int→Option PR} {G:List ExprR→Rd.Rdr→Rd.Got} (h:KR l K G):KR l (dOne P op p s s2 K) (fun L z=>Rd.thenG (Q 0 z) fun x z'=>G (L++[Rd.nP x]) z') where
  go := fun L L' z r hl hc hn hb hr => by
    unfold dOne at hr
    cases hx:P 0 z.a with
    | none=>rw [hx] at hr;cases hr
    | some x =>
      rw [hx] at hr
      simp only [thn] at hr
      obtain ⟨e1,z1,q1,o1⟩:=hP 0 z x hl hc hx
      rw [q1]
      simp only [Rd.thenG]
      cases c1:x.b.is with
      | true =>
        rw [c1] at hr
        obtain ⟨e2,q2⟩:=h.wr (L'++[Rd.nP e1]) z1 (o1.bad c1).2.1
        rw [q2]
        have:∃e a,r=⟨e,a,x.b⟩:=by
          cases L with
          | nil=>obtain rfl:=Option.some.inj hr;exact ⟨_,_,rfl⟩
          | cons y t=>obtain rfl:=Option.some.inj hr;exact ⟨_,_,rfl⟩
        obtain ⟨e,a,rfl⟩:=this
        exact ⟨_,_,rfl,o1.wrong c1 _ _ rfl⟩
      | false =>
        rw [c1] at hr
        obtain ⟨d1,d2,d3,d4⟩:=o1.ok c1
        simp only [cond_false] at hr
        rw [←d2] at hr
        refine h.go (L++[x.e]) _ z1 r o1.zl d1 ?_ (bare_app hb fun y hy=>?_) hr
        · rw [noPs_app,noPs_app,hn]
          simp only [noPs,noP_nP,d3]
        · rw [List.mem_singleton] at hy
          subst hy
          exact bare_nP d4
  wr:=fun L' z hc=>by
    obtain ⟨e,q⟩:=h.wr (L'++[Rd.nP Rd.e00]) z hc
    exact ⟨e,by rw [hw 0 z hc];exact q⟩
theorem sg_k {w:Str} {K:List ExprR→Int→Option PR} {G:List ExprR→Rd.Rdr→Rd.Got} (h:KR l K G):KR l (dSg l op p s s2 w K) (fun L z=>G L (Rd.mustZ z w)) where
 go:=fun L L' z r hl hc hn hb hr=>by
  unfold dSg at hr
  cases c1:sgA l z.a w with
  | false =>
   rw [c1] at hr
   obtain rfl:=Option.some.inj hr
   rw [must_f (by rw [nx_eq hl hc,c1]),tok_eq hl]
   have hf:=Ok.fail (l:=l) (z:=z) hl hc (tokA l z.a) ⟨nodeE op s s2 L p,z.a,wrongB (tokA l z.a)⟩ Rd.e00 rfl
   obtain ⟨e,q⟩:=h.wr L' _ (hf.bad rfl).2.1
   exact ⟨e,_,q,hf.wrong rfl _ _ rfl⟩
  | true =>
   rw [c1] at hr
   simp only [Bool.not_true,cond_false] at hr
   rw [must_t (by rw [nx_eq hl hc,c1])]
   rw [←bump_a] at hr
   exact h.go L L' (Rd.bump z) r hl hc hn hb hr
 wr:=fun L' z hc=>by
  obtain ⟨e,q⟩:=h.wr L' z hc
  exact ⟨e,by rw [must_wrong hc];exact q⟩
include hP in
theorem if_k:KR l (dIf l P op p end' s s2) (fun L z=>Rd.filtP Q end' s s2 op L z) where
  go := fun L L' z r hl hc hn hb hr => by
    unfold dIf at hr
    unfold Rd.filtP
    rw [wd_eq hl hc]
    cases c1:wdA l z.a [105,102] with
    | false =>
      rw [c1] at hr
      exact fin_k.go L L' z r hl hc hn hb hr
    | true =>
      rw [c1] at hr
      simp only [cond_true] at hr ⊢
      rw [←bump_a] at hr
      cases hx:P 0 (Rd.bump z).a with
      | none=>rw [hx] at hr;cases hr
      | some x =>
        rw [hx] at hr
        simp only [thn] at hr
        obtain ⟨e1,z1,q1,o1⟩:=hP 0 (Rd.bump z) x hl hc hx
        rw [q1]
        simp only [Rd.thenG]
        cases c2:x.b.is with
        | true =>
          rw [c2] at hr
          obtain rfl:=Option.some.inj hr
          rw [must_wrong (o1.bad c2).2.1]
          exact ⟨_,_,rfl,o1.wrong c2 _ _ rfl⟩
        | false =>
          rw [c2] at hr
          obtain ⟨d1,d2,d3,d4⟩:=o1.ok c2
          simp only [cond_false] at hr
          rw [←d2] at hr
          refine fin_k.go (L++[x.e]) _ z1 r o1.zl d1 ?_ (bare_app hb fun y hy=>?_) hr
          · rw [noPs_app,noPs_app,hn]
            simp only [noPs,noP_nP,d3]
          · rw [List.mem_singleton] at hy
            subst hy
            exact bare_nP d4
  wr:=fun L' z hc=>⟨Rd.ndE op s s2 L',by unfold Rd.filtP;rw [wd_wrong hc,cond_false,must_wrong hc]⟩
def headK (Q:Nat→Rd.Rdr→Rd.Got) (G:List ExprR→Rd.Rdr→Rd.Got) (z3:Rd.Rdr):Rd.Got:=Rd.thenG (Q 0 (Rd.kwZ z3 [105,110])) fun x z4=>G [Rd.nP x] (Rd.mustZ z4 [58])
theorem kw_t {z:Rd.Rdr} {s:Str} (h:Rd.wdB z s=true):Rd.kwZ z s=Rd.bump z:=by unfold Rd.kwZ;rw [h];rfl
theorem kw_f {z:Rd.Rdr} {s:Str} (h:Rd.wdB z s=false):Rd.kwZ z s=Rd.failZ z (Rd.tokZ z).p:=by unfold Rd.kwZ;rw [h];rfl
theorem kw_wrong {z:Rd.Rdr} {s:Str} (h:z.c≠0):Rd.kwZ z s=z:=by rw [kw_f (wd_wrong h s),fail_wrong h]
include hw in
theorem in_eqv {K:List ExprR→Int→Option PR} {G:List ExprR→Rd.Rdr→Rd.Got} (h:KR l K (fun L z=>Rd.thenG (Q 0 z) fun x z'=>G (L++[Rd.nP x]) (Rd.mustZ z' [58]))) (hG:∀L' z,z.c≠0→∃e,G L' z=some (e,z)) {z:Rd.Rdr} {r:PR} (hl:z.l=l) (hc:z.c=0) (hr:dIn l op p s s2 K z.a=some r) :
  ∃e z',headK Q G z=some (e,z')∧Ok l r e z':=by
 unfold dIn at hr
 unfold headK
 cases c1:wdA l z.a [105,110] with
 | false =>
  rw [c1] at hr
  obtain rfl:=Option.some.inj hr
  rw [kw_f (by rw [wd_eq hl hc,c1]),tok_eq hl]
  have hf:=Ok.fail (l:=l) (z:=z) hl hc (tokA l z.a) ⟨nodeE op s s2 [] p,z.a,wrongB (tokA l z.a)⟩ Rd.e00 rfl
  have hb:=(hf.bad rfl).2.1
  rw [hw 0 _ hb]
  simp only [Rd.thenG]
  rw [must_wrong hb]
  obtain ⟨e,q⟩:=hG [Rd.nP Rd.e00] _ hb
  exact ⟨e,_,q,hf.wrong rfl _ _ rfl⟩
 | true =>
  rw [c1] at hr
  simp only [Bool.not_true,cond_false] at hr
  rw [kw_t (by rw [wd_eq hl hc,c1])]
  rw [←bump_a] at hr
  exact h.go [] [] (Rd.bump z) r hl hc rfl (fun y hy=>by cases hy) hr
theorem nn_eq (t:TokR):Rd.noName t=(bif t.kind != 1 then true else resV t.s):=by unfold Rd.noName;rw [resV_eq]
include hw in
theorem head_eqv (hl2:l.length≤100000) {In:Str→Str→Int→Option PR} {G:Str→Str→List ExprR→Rd.Rdr→Rd.Got} (hG:∀s s2 L' z,z.c≠0→∃e,G s s2 L' z=some (e,z))
  (h:∀s s2 z r,z.l=l→z.c=0→In s s2 z.a=some r→∃e z',headK Q (G s s2) z=some (e,z')∧Ok l r e z') {z:Rd.Rdr} {r:PR} (hl:z.l=l) (hc:z.c=0) (hf:wdA l z.a [102,111,114]=true) (hr:dFor l op p In z.a=some r) :
  ∃e z',Rd.headP Q z G=some (e,z')∧Ok l r e z':=by
 have hg:∀s s2 z,z.c≠0→∃e,headK Q (G s s2) z=some (e,z):=fun s s2 z hc=>by
  unfold headK
  rw [kw_wrong hc,hw 0 z hc]
  simp only [Rd.thenG]
  rw [must_wrong hc]
  exact hG s s2 _ z hc
 obtain ⟨i1,i2⟩:=wd_in hf
 have hh:Rd.headP Q z G=(bif Rd.nxZ (Rd.nmZ (Rd.kwZ z [102,111,114])) [44] then headK Q (G (Rd.nmS (Rd.bump (Rd.nmZ (Rd.kwZ z [102,111,114])))) (Rd.nmS (Rd.kwZ z [102,111,114]))) (Rd.nmZ (Rd.bump (Rd.nmZ (Rd.kwZ z [102,111,114])))) else headK Q (G (Rd.nmS (Rd.kwZ z [102,111,114])) []) (Rd.nmZ (Rd.kwZ z [102,111,114]))):=rfl
 rw [hh,kw_t (by rw [wd_eq hl hc,hf])]
 unfold dFor at hr
 have bad:∀(y:Rd.Rdr),y.l=l→y.c=0→Rd.noName (tokA l y.a)=true→Rd.nmZ y=Rd.failZ y (tokA l y.a).p∧(Rd.nmZ y).c≠0:=fun y h1 h2 h3=>by
  have h4:Rd.nm1 y=Rd.failZ y (tokA l y.a).p:=by unfold Rd.nm1;rw [tok_eq h1,h3];rfl
  have h5:(Rd.failZ y (tokA l y.a).p).c≠0:=by rw [fail_eq h2];show (4:Int)≠0;decide
  have h6:Rd.nmZ y=Rd.failZ y (tokA l y.a).p:=by unfold Rd.nmZ;rw [h4,c_false h5];rfl
  exact ⟨h6,by rw [h6];exact h5⟩
 have good:∀(y:Rd.Rdr),y.l=l→y.c=0→Rd.noName (tokA l y.a)=false→Rd.nmZ y=Rd.bump y∧Rd.nmS y=(tokA l y.a).s:=fun y h1 h2 h3=>by
  have h4:Rd.nm1 y=y:=by unfold Rd.nm1;rw [tok_eq h1,h3];rfl
  exact ⟨by unfold Rd.nmZ;rw [h4,c_true h2];rfl,by unfold Rd.nmS;rw [h4,c_true h2,tok_eq h1];rfl⟩
 have a2:(Rd.bump (Rd.bump z)).a=w64 (z.a+2):=by rw [bump_a,bump_a];exact two_on hl2 i1 i2
 have o1:∀(x y:Bool) (A B:Option PR),orF x y A B=bif (bif x then true else y) then A else B:=fun x y A B=>by cases x<;>rfl
 rw [o1,←nn_eq,←bump_a] at hr
 cases c1:Rd.noName (tokA l (Rd.bump z).a) with
 | true =>
  rw [c1] at hr
  obtain rfl:=Option.some.inj hr
  obtain ⟨h1,h2⟩:=bad (Rd.bump z) hl hc c1
  rw [nx_wrong h2,cond_false]
  obtain ⟨e,q⟩:=hg (Rd.nmS (Rd.bump z)) [] _ h2
  rw [q,h1]
  exact ⟨e,_,rfl,Ok.fail (l:=l) (z:=Rd.bump z) hl hc _ _ _ rfl⟩
 | false =>
  rw [c1] at hr
  obtain ⟨h1,h2⟩:=good (Rd.bump z) hl hc c1
  rw [h1,h2,nx_eq (l:=l) (z:=Rd.bump (Rd.bump z)) hl hc,a2]
  simp only [cond_false] at hr
  cases c2:sgA l (w64 (z.a+2)) [44] with
  | false =>
   rw [c2] at hr
   rw [←a2] at hr
   exact h _ _ (Rd.bump (Rd.bump z)) r hl hc hr
  | true =>
   obtain ⟨j1,j2⟩:=sg_in c2
   rw [c2] at hr
   simp only [cond_true] at hr ⊢
   rw [o1,←nn_eq,←a2,←bump_a] at hr
   cases c3:Rd.noName (tokA l (Rd.bump (Rd.bump (Rd.bump z))).a) with
   | true =>
    rw [c3] at hr
    obtain rfl:=Option.some.inj hr
    obtain ⟨h3,h4⟩:=bad (Rd.bump (Rd.bump (Rd.bump z))) hl hc c3
    obtain ⟨e,q⟩:=hg (Rd.nmS (Rd.bump (Rd.bump (Rd.bump z)))) (tokA l (Rd.bump z).a).s _ h4
    rw [q,h3]
    exact ⟨e,_,rfl,Ok.fail (l:=l) (z:=Rd.bump (Rd.bump (Rd.bump z))) hl hc _ _ _ rfl⟩
   | false =>
    rw [c3] at hr
    obtain ⟨h3,h4⟩:=good (Rd.bump (Rd.bump (Rd.bump z))) hl hc c3
    rw [h3,h4]
    have a4:(Rd.bump (Rd.bump (Rd.bump (Rd.bump z)))).a=w64 ((Rd.bump (Rd.bump z)).a+2):=by
     rw [bump_a,bump_a (Rd.bump (Rd.bump z))]
     rw [←a2] at j1 j2
     exact two_on hl2 j1 j2
    simp only [cond_false] at hr
    rw [←a4] at hr
    exact h _ _ (Rd.bump (Rd.bump (Rd.bump (Rd.bump z)))) r hl hc hr
include hP hw in
theorem for93_eqv (hl2:l.length≤100000) {z:Rd.Rdr} {r:PR} (hl:z.l=l) (hc:z.c=0) (hf:wdA l z.a [102,111,114]=true) (hr:forM l P [93] z.a p=some r) :
  ∃e z',(Rd.headP Q z fun s s2 l z1=>Rd.thenG (Q 0 z1) fun y z2=>Rd.filtP Q [93] s s2 24 (l++[Rd.nP y]) z2)=some (e,z')∧Ok l r e z':=by
 rw [for93] at hr
 have key:=fun (s s2:Str)=>one_k hP hw (op:=24) (p:=p) (s:=s) (s2:=s2) (if_k hP (op:=24) (p:=p) (end':=[93]) (s:=s) (s2:=s2))
 refine head_eqv hw hl2 (fun s s2 L' z hc=>(key s s2).wr L' z hc) (fun s s2 z r hl hc h=>?_) hl hc hf hr
 exact in_eqv hw (one_k hP hw (sg_k (key s s2))) (key s s2).wr hl hc h
include hP hw in
theorem for125_eqv (hl2:l.length≤100000) {z:Rd.Rdr} {r:PR} (hl:z.l=l) (hc:z.c=0) (hf:wdA l z.a [102,111,114]=true) (hr:forM l P [125] z.a p=some r) :
  ∃e z',(Rd.headP Q z fun s s2 l z1=>Rd.thenG (Q 0 z1) fun y z2=>Rd.thenG (Q 0 (Rd.mustZ z2 [61,62])) fun x z3=>Rd.filtP Q [125] s s2 25 ((l++[Rd.nP y])++[Rd.nP x]) z3)=some (e,z')∧Ok l r e z':=by
 rw [for125] at hr
 have key:=fun (s s2:Str)=>one_k hP hw (op:=25) (p:=p) (s:=s) (s2:=s2) (sg_k (w:=[61,62]) (op:=25) (p:=p) (s:=s) (s2:=s2) (one_k hP hw (op:=25) (p:=p) (s:=s) (s2:=s2) (if_k hP (op:=25) (p:=p) (end':=[125]) (s:=s) (s2:=s2))))
 refine head_eqv hw hl2 (fun s s2 L' z hc=>(key s s2).wr L' z hc) (fun s s2 z r hl hc h=>?_) hl hc hf hr
 exact in_eqv hw (one_k hP hw (sg_k (key s s2))) (key s s2).wr hl hc h
end
end Go.Proofs.YtcgbgcconigdbaaGreatDoor.Eqv
