/-
 THE PROGRAM's READER AND THE DOCUMENT's: strings; the expression that a text is.
-/
import Derived.Test.YtcgbgcconigdbaaGreatDoorEqv4
namespace Go.Proofs.YtcgbgcconigdbaaGreatDoor.Eqv
open Go.Eng
set_option maxRecDepth 100000
section
variable {l:List TokR} {P:Reads} {Q:Nat→Rd.Rdr→Rd.Got} {T:Texts} {TZ:Rd.Rdr→Rd.Got} (hP:DP l P Q) (hw:Wr Q) (hT:TP l T TZ) (hl2:l.length≤100000)
theorem y_ok {x:PL} {e:List ExprR} {z:Rd.Rdr} {op:Int} {s s2:Str} {p:PosR} (h:OkL l x e z):Ok l ⟨nodeE op s s2 x.l p,x.a,x.b⟩ (Rd.ndE op s s2 e) z :=
 ⟨h.zl,fun hb=>by obtain ⟨a,b,c,d⟩:=h.ok hb;exact ⟨a,b,by rw [noP_nd,noP_node,c],bare_nd d⟩,h.bad⟩
include hP hw hT hl2 in
theorem first_eqv {m M:Nat} (hM:m≤M) {z:Rd.Rdr} {r:PR} (hl:z.l=l) (hc:z.c=0) (h:firstM l P T m z.a=some r):∃e z',Rd.firstP Q TZ M z=some (e,z')∧Ok l r e z':=by
 unfold firstM firstX at h
 unfold Rd.firstP
 rw [c_true hc,tok_eq hl,nx_eq hl hc,nx_eq hl hc,nx_eq hl hc]
 simp only [Bool.not_true,cond_false]
 cases k2:(tokA l z.a).kind==2 with
 | true =>
  simp only [k2,cond_true,OM] at h
  obtain rfl:=Option.some.inj h
  exact ⟨_,_,rfl,hl,fun _=>⟨hc,rfl,noP_lt _ _ _ _,bare_lt _ _ _⟩,fun h=>by cases h⟩
 | false =>
 cases k3:(tokA l z.a).kind==3 with
 | true =>
  simp only [k2,k3,cond_true,cond_false,tx] at h
  simp only [cond_true,cond_false]
  cases hx:T (tokA l z.a) with
  | none=>rw [hx] at h;cases h
  | some y =>
   rw [hx] at h
   obtain rfl:=Option.some.inj h
   exact hT z y.1 y.2 hl hc (beq_iff_eq.1 k3) hx
 | false =>
 cases k1:(tokA l z.a).kind==1 with
 | true =>
  simp only [k2,k3,k1,cond_true,cond_false,OM] at h
  simp only [cond_true,cond_false]
  unfold Rd.namedP
  cases c1:(tokA l z.a).s==[116,114,117,101] with
  | true =>
   rw [c1] at h
   obtain rfl:=Option.some.inj h
   exact ⟨_,_,rfl,hl,fun _=>⟨hc,rfl,noP_lt _ _ _ _,bare_lt _ _ _⟩,fun h=>by cases h⟩
  | false =>
  cases c2:(tokA l z.a).s==[102,97,108,115,101] with
  | true =>
   rw [c1,c2] at h
   obtain rfl:=Option.some.inj h
   exact ⟨_,_,rfl,hl,fun _=>⟨hc,rfl,noP_lt _ _ _ _,bare_lt _ _ _⟩,fun h=>by cases h⟩
  | false =>
  cases c3:(tokA l z.a).s==[110,117,108,108] with
  | true =>
   rw [c1,c2,c3] at h
   obtain rfl:=Option.some.inj h
   exact ⟨_,_,rfl,hl,fun _=>⟨hc,rfl,noP_lt _ _ _ _,bare_lt _ _ _⟩,fun h=>by cases h⟩
  | false =>
  rw [c1,c2,c3] at h
  simp only [cond_false] at h ⊢
  rw [resV_eq]
  cases c4:resV (tokA l z.a).s with
  | true =>
   rw [c4] at h
   obtain rfl:=Option.some.inj h
   have hf:=Ok.fail (l:=l) (z:=Rd.bump z) hl hc (tokA l z.a) ⟨nodeE 0 [] [] [] p00,z.a,wrongB (tokA l z.a)⟩ (Rd.ndE 2 (tokA l z.a).s [] []) rfl
   simp only [cond_true]
   rw [nx_wrong (hf.bad rfl).2.1]
   exact ⟨_,_,rfl,hf⟩
  | false =>
   rw [c4] at h
   simp only [cond_false] at h ⊢
   rw [nx_eq (l:=l) (z:=Rd.bump z) hl hc,bump_a]
   cases c5:sgA l (w64 (z.a+1)) [40] with
   | false =>
    rw [c5] at h
    obtain rfl:=Option.some.inj h
    exact ⟨_,_,rfl,hl,fun _=>⟨hc,rfl,by rw [noP_nd,noP_node],bare_nd fun x h=>by cases h⟩,fun h=>by cases h⟩
   | true =>
    rw [c5] at h
    have hin:0≤z.a∧z.a < (l.length:Int):=kd_in (beq_iff_eq.1 k1) (by decide)
    simp only [cond_true] at h ⊢
    rw [←two_on hl2 hin.1 hin.2,←bump_a,←bump_a (Rd.bump z)] at h
    cases hx:exsM l P T m [41] (Rd.bump (Rd.bump z)).a with
    | none=>rw [hx] at h;cases h
    | some x =>
     rw [hx] at h
     obtain rfl:=Option.some.inj h
     obtain ⟨e,z',q,o⟩:=items_eqv hP (end':=[41]) rfl hM (z:=Rd.bump (Rd.bump z)) hl hc hx
     rw [q]
     exact ⟨_,z',rfl,y_ok o⟩
 | false =>
 simp only [k2,k3,k1,cond_false] at h ⊢
 cases c1:sgA l z.a [40] with
 | true =>
  rw [c1] at h
  simp only [cond_true,dp] at h ⊢
  rw [←bump_a] at h
  cases hx:P 0 (Rd.bump z).a with
  | none=>rw [hx] at h;cases h
  | some x =>
   rw [hx] at h
   simp only [thn] at h
   obtain ⟨e1,z1,q1,o1⟩:=hP 0 (Rd.bump z) x hl hc hx
   rw [q1]
   simp only [Rd.thenG]
   cases c2:x.b.is with
   | true =>
    rw [c2] at h
    obtain rfl:=Option.some.inj h
    rw [must_wrong (o1.bad c2).2.1]
    exact ⟨_,z1,rfl,o1.wrong c2 _ _ rfl⟩
   | false =>
    rw [c2] at h
    obtain ⟨d1,d2,d3,d4⟩:=o1.ok c2
    simp only [Bool.not_false,BEq.rfl,cond_true] at h
    cases c3:sgA l x.a [41] with
    | false =>
     rw [c3] at h
     obtain rfl:=Option.some.inj h
     rw [must_f (by rw [nx_eq o1.zl d1,d2,c3]),tok_eq o1.zl,d2]
     exact ⟨_,_,rfl,Ok.fail o1.zl d1 _ _ _ rfl⟩
    | true =>
     rw [c3] at h
     obtain rfl:=Option.some.inj h
     rw [must_t (by rw [nx_eq o1.zl d1,d2,c3])]
     exact ⟨_,_,rfl,o1.zl,fun _=>⟨d1,by rw [bump_a,d2],by rw [noP_nP,d3],bare_nP d4⟩,fun hb=>(by rw [c2] at hb;cases hb)⟩
 | false =>
 rw [c1] at h
 simp only [cond_false] at h ⊢
 cases c2:sgA l z.a [91] with
 | true =>
  rw [c2] at h
  simp only [cond_true] at h ⊢
  unfold Rd.brackP
  rw [wd_eq (l:=l) (z:=Rd.bump z) hl hc,bump_a]
  cases c3:wdA l (w64 (z.a+1)) [102,111,114] with
  | true =>
   rw [c3] at h
   simp only [Bool.not_true,cond_true,cond_false] at h ⊢
   rw [←bump_a] at h c3
   cases hx:forM l P [93] (Rd.bump z).a (tokA l z.a).p with
   | none=>rw [hx] at h;cases h
   | some x =>
    rw [hx] at h
    obtain rfl:=Option.some.inj h
    exact for93_eqv hP hw hl2 (z:=Rd.bump z) hl hc c3 hx
  | false =>
   rw [c3] at h
   simp only [Bool.not_false,cond_true,cond_false] at h ⊢
   rw [←bump_a] at h
   cases hx:exsM l P T m [93] (Rd.bump z).a with
   | none=>rw [hx] at h;cases h
   | some x =>
    rw [hx] at h
    obtain rfl:=Option.some.inj h
    obtain ⟨e,z',q,o⟩:=items_eqv hP (end':=[93]) rfl hM (z:=Rd.bump z) hl hc hx
    rw [q]
    exact ⟨_,z',rfl,y_ok o⟩
 | false =>
 rw [c2] at h
 simp only [cond_false] at h ⊢
 cases c3:sgA l z.a [123] with
 | false =>
  rw [c3] at h
  obtain rfl:=Option.some.inj h
  exact ⟨_,_,rfl,Ok.fail hl hc _ _ _ rfl⟩
 | true =>
  obtain ⟨i1,i2⟩:=sg_in c3
  rw [c3] at h
  simp only [cond_true] at h ⊢
  unfold Rd.braceP
  have ha:Rd.aheadB (Rd.bump z)=bif wdA l (w64 (z.a+1)) [102,111,114] then (bif !(sgA l (w64 (z.a+2)) [61]) then !(sgA l (w64 (z.a+2)) [58]) else false) else false:=by
   unfold Rd.aheadB
   rw [wd_eq (l:=l) (z:=Rd.bump z) hl hc,bump_a]
   have hs:∀s:Str,Rd.isA (Rd.bump z).l (IntKind.i64.wrap (w64 (z.a+1)+1)) 0 s=sgA l (w64 (z.a+2)) s:=fun s=>by
    rw [bump_l,hl]
    show Rd.isA l (w64 (w64 (z.a+1)+1)) 0 s=_
    rw [two_on hl2 i1 i2]
    rfl
   rw [hs,hs]
  rw [ha]
  have prs:(exsM l P T m [125] (w64 (z.a+1))).bind (fun x=>some (⟨nodeE 23 [] [] x.l (tokA l z.a).p,x.a,x.b⟩:PR))=some r→∃e z',(Rd.thenG (Rd.listP (Rd.pairP Q TZ) M [125] (Rd.bump z)) fun l z'=>some (Rd.ndE 23 [] [] l,z'))=some (e,z')∧Ok l r e z':=by
   intro h
   rw [←bump_a] at h
   cases hx:exsM l P T m [125] (Rd.bump z).a with
   | none=>rw [hx] at h;cases h
   | some x =>
    rw [hx] at h
    obtain rfl:=Option.some.inj h
    obtain ⟨e,z',q,o⟩:=pairs_eqv hP hw hT hM (z:=Rd.bump z) hl hc hx
    rw [q]
    exact ⟨_,z',rfl,y_ok o⟩
  have hE:∀x:Option PL,(thn x fun x=>OM.y 23 [] [] x.l (tokA l z.a).p x.a x.b)=x.bind (fun x=>some (⟨nodeE 23 [] [] x.l (tokA l z.a).p,x.a,x.b⟩:PR)):=fun x=>by cases x<;>rfl
  rw [hE] at h
  cases c4:wdA l (w64 (z.a+1)) [102,111,114] with
  | false=>rw [c4] at h;exact prs h
  | true =>
  rw [c4] at h
  cases c5:sgA l (w64 (z.a+2)) [61] with
  | true=>rw [c5] at h;exact prs h
  | false =>
  rw [c5] at h
  cases c6:sgA l (w64 (z.a+2)) [58] with
  | true=>rw [c6] at h;exact prs h
  | false =>
   rw [c6] at h
   simp only [Bool.not_false,Bool.not_true,BEq.rfl,cond_true,cond_false] at h ⊢
   rw [←bump_a] at h c4
   cases hx:forM l P [125] (Rd.bump z).a (tokA l z.a).p with
   | none=>rw [hx] at h;cases h
   | some x =>
    rw [hx] at h
    obtain rfl:=Option.some.inj h
    exact for125_eqv hP hw hl2 (z:=Rd.bump z) hl hc c4 hx
include hP hw hT hl2 in
theorem post_eqv {m M:Nat} (hM:m+1≤M) {z:Rd.Rdr} {r:PR} (hl:z.l=l) (hc:z.c=0) (h:postM l P T m z.a=some r):∃e z',Rd.postP Q TZ M z=some (e,z')∧Ok l r e z':=by
 unfold postM at h
 cases hx:firstM l P T m z.a with
 | none=>rw [hx] at h;cases h
 | some x =>
  rw [hx] at h
  simp only [thn] at h
  obtain ⟨y,hy,rfl⟩:=Option.map_eq_some_iff.1 h
  obtain ⟨e,z',q,o⟩:=first_eqv hP hw hT hl2 (show m≤M by omega) hl hc hx
  unfold Rd.postP
  rw [q]
  exact po_rnd hP hl2 m M x _ z' y hM o.nP hy
end
theorem read_wr (TZ:Rd.Rdr→Rd.Got) (n:Nat):Wr (Rd.readP TZ n):=fun k z h=>Rd.readP_wrong TZ n k (c_false h)
theorem read_eqv {l:List TokR} {T:Texts} {TZ:Rd.Rdr→Rd.Got} (hT:TP l T TZ) (hl2:l.length≤100000):∀(n N:Nat),n+1≤N→DP l (rdM l T n) (Rd.readP TZ N)
 | 0,_,_=>fun k z r _ _ h=>by cases h
 | n+1,0,hN=>by omega
 | n+1,N+1,hN=>by
  have ih:=read_eqv hT hl2 n N (by omega)
  have hw:=read_wr TZ N
  intro k z r hl hc h
  have lv:∀k,k < 5→(lvX (k+1) z.a (dp (rdM l T n)) (fun r K=>thn (lvL l (k+1) (rdM l T n) n r) K) OM)=some r→∃e z',(Rd.thenG (Rd.readP TZ N (k+2) z) fun e z'=>Rd.loopG (Rd.readP TZ N) k N (Rd.nP e) z')=some (e,z')∧Ok l r e z':=fun k hk h=>lv_eqv ih hk (by omega) hl hc h
  have hz:(!(z.c==0))=false:=by rw [c_true hc];rfl
  match k with
  | 0=>simp only [Rd.readP,hz,cond_false];exact cond_eqv ih hw hl hc h
  | 1=>simp only [Rd.readP,hz,cond_false];exact lv 0 (by omega) h
  | 2=>simp only [Rd.readP,hz,cond_false];exact lv 1 (by omega) h
  | 3=>simp only [Rd.readP,hz,cond_false];exact lv 2 (by omega) h
  | 4=>simp only [Rd.readP,hz,cond_false];exact lv 3 (by omega) h
  | 5=>simp only [Rd.readP,hz,cond_false];exact lv 4 (by omega) h
  | 6=>simp only [Rd.readP,hz,cond_false];exact un_eqv ih hl hc h
  | 7=>simp only [Rd.readP,hz,cond_false];exact post_eqv ih hw hT hl2 (by omega) hl hc h
  | k+8=>cases h
end Go.Proofs.YtcgbgcconigdbaaGreatDoor.Eqv
namespace Go.Proofs.YtcgbgcconigdbaaGreatDoor.Eqv
open Go.Eng
set_option maxRecDepth 100000
def WEq (W:Wholes) (V:Rd.Whl):Prop:=∀s w,W s=some w→∃e,V s=some (e,w.c,w.p)∧(w.c=0→noP e=noP w.e)
theorem whole_eqv {T:Texts} {TZ:Rd.Rdr→Rd.Got} (hT:∀l,TP l T TZ) {n N:Nat} (hN:n+1≤N):WEq (wholeM fun l=>rdM l T n) (Rd.wholeP TZ N):=by
 intro s w h
 unfold wholeM at h
 unfold Rd.wholeP
 cases c1:(allM s).bad==0 with
 | false =>
  rw [bne,c1] at h
  obtain rfl:=Option.some.inj h
  exact ⟨Rd.e00,rfl,fun h=>(by
   have h:(allM s).bad=0:=h
   rw [h] at c1;cases c1)⟩
 | true =>
  rw [bne,c1] at h
  simp only [Bool.not_true,cond_false] at h ⊢
  cases hx:rdM (allM s).l T n 0 0 with
  | none=>rw [hx] at h;cases h
  | some r =>
   rw [hx] at h
   simp only [thn] at h
   have hlen:=(allM_toks s).2.1
   obtain ⟨e,z,q,o⟩:=read_eqv (hT (allM s).l) (by omega) n N hN 0 (Rd.zS s) r rfl rfl hx
   rw [q]
   simp only
   unfold badW at h
   cases c2:r.b.is with
   | true =>
    obtain ⟨b1,b2,b3⟩:=o.bad c2
    simp only [c2,Bool.not_true,cond_false,cond_true] at h
    obtain rfl:=Option.some.inj h
    have hz:Rd.rdrE z=z:=by unfold Rd.rdrE;rw [c_false b2];rfl
    rw [hz,c_false b2]
    exact ⟨Rd.e00,by rw [b1,b3];rfl,fun h=>absurd h (by rw [←b1];exact b2)⟩
   | false =>
    obtain ⟨b1,b2,b3,b4⟩:=o.ok c2
    simp only [c2,Bool.not_false,cond_true] at h
    have hk:Rd.tokZ z=tokA (allM s).l r.a:=by rw [tok_eq o.zl,b2]
    cases c3:(tokA (allM s).l r.a).kind==0 with
    | false =>
     rw [bne,c3] at h
     obtain rfl:=Option.some.inj h
     have hz:Rd.rdrE z=Rd.failZ z (tokA (allM s).l r.a).p:=by unfold Rd.rdrE;rw [c_true b1,hk,cond_true,c3];rfl
     rw [hz,fail_eq b1]
     exact ⟨Rd.e00,rfl,fun h=>absurd h (by show (4:Int)≠0;decide)⟩
    | true =>
     rw [bne,c3] at h
     simp only [Bool.not_true,cond_false,c2] at h
     obtain rfl:=Option.some.inj h
     have hz:Rd.rdrE z=z:=by unfold Rd.rdrE;rw [c_true b1,hk,cond_true,c3];rfl
     rw [hz,c_true b1,Rd.bare_b e b4]
     exact ⟨e,rfl,fun _=>b3⟩
theorem txL_eqv {W:Wholes} {V:Rd.Whl} (hV:WEq W V) (hb:∀s e p,V s=some (e,0,p)→Bare e) (tp:PosR):∀(l:List PartR) (out o2:List ExprR) (x:Bool×List ExprR×BadR),noPs o2=noPs out→(∀y,y∈o2→Bare y)→txL W tp l out=some x →
  ∃y,Rd.txL V l o2=some y∧y.1=x.1∧noPs y.2.1=noPs x.2.1∧(∀e,e∈y.2.1→Bare e)∧(x.1=true→x.2.2.is=true∧y.2.2.1=x.2.2.c∧y.2.2.1≠0∧y.2.2.2=x.2.2.p)
 | [],out,o2,x,hn,hbr,h=>by
  obtain rfl:=Option.some.inj h
  exact ⟨_,rfl,rfl,hn,hbr,fun h=>by cases h⟩
 | p::r,out,o2,x,hn,hbr,h=>by
  simp only [txL] at h
  simp only [Rd.txL]
  cases c1:!p.expr with
  | true =>
   rw [c1] at h
   refine txL_eqv hV hb tp r _ _ x ?_ (bare_app hbr fun y hy=>?_) h
   ·rw [noPs_app,noPs_app,hn]
    simp only [noPs,noP_lt 3 0 p.s tp]
   ·rw [List.mem_singleton] at hy
    subst hy
    exact bare_lt _ _ _
  | false =>
   rw [c1] at h
   simp only [cond_false] at h ⊢
   cases hw:W p.s with
   | none=>rw [hw] at h;cases h
   | some w =>
    rw [hw] at h
    simp only [thn] at h
    obtain ⟨e,q,hq⟩:=hV p.s w hw
    rw [q]
    simp only [Rd.thn]
    cases c2:w.c != 0 with
    | true =>
     rw [c2] at h
     obtain rfl:=Option.some.inj h
     exact ⟨_,rfl,rfl,hn,hbr,fun _=>⟨rfl,rfl,by simpa using c2,rfl⟩⟩
    | false =>
     rw [c2] at h
     have hc:w.c=0:=by simpa using c2
     simp only [cond_false] at h ⊢
     rw [hc] at q
     refine txL_eqv hV hb tp r _ _ x ?_ (bare_app hbr fun y hy=>?_) h
     ·rw [noPs_app,noPs_app,hn]
      simp only [noPs,noP_nP,noP_mov,hq hc]
     ·rw [List.mem_singleton] at hy
      subst hy
      exact bare_nP (hb _ _ _ q)
theorem text_eqv {W:Wholes} {V:Rd.Whl} (hV:WEq W V) (hb:∀s e p,V s=some (e,0,p)→Bare e) (l:List TokR):TP l (textM W) (Rd.textZ V):=by
 intro z e b hl hc hk h
 unfold textM at h
 unfold Rd.textZ
 rw [tok_eq hl]
 generalize tokA l z.a=t at h
 cases c1:Nat.ble t.parts.length 100000 with
 | false=>rw [c1] at h;cases h
 | true =>
 rw [c1] at h
 simp only [cond_true] at h ⊢
 cases c2:(t.parts.length:Int)==0 with
 | true =>
  rw [c2] at h
  simp only [cond_true,Option.some.injEq,Prod.mk.injEq] at h
  obtain ⟨rfl,rfl⟩:=h
  exact ⟨_,_,rfl,hl,fun _=>⟨hc,rfl,noP_lt 3 0 [] t.p,bare_lt _ _ _⟩,fun h=>by cases h⟩
 | false =>
 rw [c2] at h
 have hpt:Rd.pt t 0=pt t 0:=rfl
 simp only [cond_false] at h ⊢
 rw [hpt]
 cases c3:(bif (t.parts.length:Int)==1 then !(pt t 0).expr else false) with
 | true =>
  rw [c3] at h
  simp only [cond_true,Option.some.injEq,Prod.mk.injEq] at h
  obtain ⟨rfl,rfl⟩:=h
  exact ⟨_,_,rfl,hl,fun _=>⟨hc,rfl,noP_lt 3 0 _ t.p,bare_lt _ _ _⟩,fun h=>by cases h⟩
 | false =>
 rw [c3] at h
 simp only [cond_false] at h ⊢
 cases hx:txL W t.p t.parts [] with
 | none=>rw [hx] at h;cases h
 | some x =>
  rw [hx] at h
  simp only [thn,Option.some.injEq,Prod.mk.injEq] at h
  obtain ⟨rfl,rfl⟩:=h
  obtain ⟨y,q,y1,y2,y3,y4⟩:=txL_eqv hV hb t.p t.parts [] [] x rfl (fun y hy=>by cases hy) hx
  rw [q]
  simp only [Rd.thn]
  rw [y1]
  cases c4:x.1 with
  | true =>
   obtain ⟨d0,d1,d2,d3⟩:=y4 c4
   refine ⟨_,_,rfl,?_⟩
   have hf:Rd.failC (Rd.bump z) y.2.2.1 y.2.2.2={ Rd.bump z with c:=y.2.2.1,p:=y.2.2.2 }:=by unfold Rd.failC;rw [bump_c,c_true hc];rfl
   rw [cond_true,hf]
   exact ⟨hl,fun h=>(by have h:x.2.2.is=false:=h;rw [d0] at h;cases h),fun _=>⟨d1,d2,d3⟩⟩
  | false =>
   refine ⟨_,_,rfl,?_⟩
   rw [cond_false]
   have h0:x.2.2=bad0:=txL_ok _ _ x hx c4
   rw [h0]
   refine ⟨hl,fun _=>⟨hc,rfl,?_,bare_nd y3⟩,fun h=>by cases h⟩
   rw [noP_nd,noP_node,y2]
theorem W1_eqv:WEq W1 Rd.WP1:=whole_eqv (T:=T0) (TZ:=fun _=>none) (n:=fuel) (N:=Rd.nR) (fun l z e b _ _ _ h=>by cases h) (by decide)
theorem W2_eqv:WEq W2 Rd.WP2:=whole_eqv (T:=T1) (TZ:=Rd.textZ Rd.WP1) (n:=fuel) (N:=Rd.nR) (fun l=>text_eqv W1_eqv Rd.WP1_ok.bare l) (by decide)
end Go.Proofs.YtcgbgcconigdbaaGreatDoor.Eqv
