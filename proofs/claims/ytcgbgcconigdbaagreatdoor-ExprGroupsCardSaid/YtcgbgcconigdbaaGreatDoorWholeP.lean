/-
 WHAT THE PROGRAM READS: the expression that a text is.
-/
import Derived.Test.YtcgbgcconigdbaaGreatDoorTextE
import Derived.Test.YtcgbgcconigdbaaGreatDoorFresh
namespace Go.Proofs.YtcgbgcconigdbaaGreatDoor.Rd
open Go.Eng Go.RowKit
set_option maxRecDepth 100000
structure WhOk (W:Whl):Prop where
 snd:SndW W
 bare:∀s e p,W s=some (e,0,p)→Bare e
theorem tx_whole {W:Whl} (hW:WhOk W) (z:Rdr) (t:TokR) (out:List ExprR) (i:Nat) {s:List UInt8} {q:PosR} {e:ExprR} {p:PosR} (hi:i < t.parts.length) (hl:t.parts.length≤100000) (hp:pt t i=⟨true,s,q⟩) (hs:W s=some (e,0,p)) (ho:out.length≤i) :
  Goes X0 (loopAt 53 0) (sTx z t out i) .normal (sTx z t (out++[nP e]) (IntKind.i64.wrap ((i:Int)+1))):=by
 have hbig:big=140737488355328:=rfl
 intro g a w hS hK Q hQ
 rw [tb_eq]
 have h9:=e9 z t out i
 rw [decide_eq_true (by omega:(i:Int) < (t.parts.length:Int))] at h9
 have h10:=e10 z t out i
 rw [ix_t hi,hp] at h10
 refine wp_seq (goes_ofX h9 _ a w hS hK _ fun rho1 a1 w1 hS1 hK1=>?_)
 refine wp_seq (goes_ofX (eCd z t out i) _ a1 w1 hS1 hK1 _ fun rho2 a2 w2 hS2 hK2=>?_)
 refine wp_seq (wp_block ?_)
 refine wp_seq (goes_ofX h10 _ a2 w2 hS2 hK2 _ fun rho3 a3 w3 hS3 hK3=>?_)
 refine wp_seq (goes_ofX (e11 z t out i s q) _ a3 w3 hS3 hK3 _ fun rho4 a4 w4 hS4 hK4=>?_)
 refine wp_seq (op13_goes hW.snd hs (hW.bare s e p hs) hS4 hK4 fun us pp a5 w5 hr h5=>?_)
 refine wp_seq (h5.code (goes_ofX (e14 z t out i s q (Mv.RwE.of us pp) p)) fun a6 w6 h6=>?_)
 refine op19_goes (hW.bare s e p hs) (by omega) h6 fun a7 w7 ⟨rho7,hS7,hK7⟩=>?_
 refine goes_ofT (tell0_ok _) (hE20 z t (out++[eN e]) i s q (Mv.RwE.of us pp) p) _ a7 w7 hS7 hK7 _ fun rho8 a8 w8 hS8 hK8=>?_
 exact hQ rho8 a8 w8 hS8 hK8
def thn {γ δ:Type} (x:Option γ) (k:γ→Option δ):Option δ:=match x with
 | some y=>k y
 | none=>none
def txL (W:Whl):List PartR→List ExprR→Option (Bool×List ExprR×Int×PosR)
 | [],out=>some (false,out,0,p00)
 | p::r,out=>bif !p.expr then txL W r (out++[ltE 3 0 p.s]) else thn (W p.s) fun x=>bif x.2.1 != 0 then some (true,out,x.2.1,mvP p.p x.2.2) else txL W r (out++[nP x.1])
def outTx (z:Rdr) (t:TokR) (x:Bool×List ExprR×Int×PosR):Ex×St Pl:=bif x.1 then (.ret,sTxR (ndE 26 [] [] x.2.1) (failC z x.2.2.1 x.2.2.2)) else (.exit 0,sTx z t x.2.1 t.parts.length)
theorem tx_rnd {W:Whl} (hW:WhOk W) (z:Rdr) (t:TokR) (hl:t.parts.length≤100000):∀(k i:Nat) (out:List ExprR) (x:Bool×List ExprR×Int×PosR),t.parts.length - i=k→i≤t.parts.length→out.length≤i→txL W (t.parts.drop i) out=some x →
  Rnd (loopAt 53 0) (sTx z t out i) (outTx z t x).1 (outTx z t x).2
 | 0,i,out,x,hk,hi,ho,h=>by
  obtain rfl:i=t.parts.length:=by omega
  rw [List.drop_length] at h
  obtain rfl:=Option.some.inj h
  exact .stop (by simp [outTx]) (goes_ofT (tW_ok hW.snd) ((bTx W z t out t.parts.length).trans (lt_f (by omega) _ _)))
 | k+1,i,out,x,hk,hi,ho,h=>by
  have hbig:big=140737488355328:=rfl
  have hlt:i < t.parts.length:=by omega
  have step:=fun e S' (h:_=some (e,S'))=>goes_ofT (tW_ok hW.snd) ((bTx W z t out i).trans h)
  unfold bodyTx at step
  rw [lt_t hlt,ix_t hlt,show IntKind.i64.wrap ((i:Int)+1)=((i+1:Nat):Int) from wrap_nat (by omega),apK_t (by omega)] at step
  rw [List.drop_eq_getElem_cons hlt] at h
  have hp:t.parts[i]=pt t i:=by unfold pt;rw [List.getD_eq_getElem?_getD,List.getElem?_eq_getElem hlt];rfl
  rw [hp] at h
  simp only [txL] at h
  have hlen:∀e:ExprR,(out++[e]).length≤i+1:=by intro e;rw [List.length_append,List.length_singleton];omega
  cases c1:!(pt t i).expr with
  | true =>
   rw [c1] at h step
   exact .step (step _ _ rfl) (tx_rnd hW z t hl k (i+1) _ x (by omega) (by omega) (hlen _) h)
  | false =>
   rw [c1,cond_false] at h step
   cases hx:W (pt t i).s with
   | none=>rw [hx] at h;cases h
   | some y =>
    rw [hx] at h
    have hy:gotW (some y)=y:=rfl
    rw [hx,hy] at step
    simp only [thn] at h
    cases c2:y.2.1 != 0 with
    | true =>
     rw [c2] at h step
     obtain rfl:=Option.some.inj h
     refine .stop (by simp [outTx]) (step _ _ ?_)
     show (bif z.c==0 then some (Ex.ret,sTxR (ndE 26 [] [] out) (badZ z y.2.1 (mvP (pt t i).p y.2.2))) else some (.ret,sTxR (ndE 26 [] [] out) z))=some (.ret,sTxR (ndE 26 [] [] out) (failC z y.2.1 (mvP (pt t i).p y.2.2)))
     unfold failC
     cases z.c==0<;>rfl
    | false =>
     rw [c2,cond_false] at h
     obtain ⟨e,c,p⟩:=y
     simp only [bne_eq_false_iff_eq] at c2
     subst c2
     have hpt:pt t i=⟨true,(pt t i).s,(pt t i).p⟩:=by
      generalize pt t i=u at c1
      cases u
      simp only [Bool.not_eq_false'] at c1
      subst c1;rfl
     have:=tx_whole hW z t out i hlt hl hpt hx ho
     rw [show IntKind.i64.wrap ((i:Int)+1)=((i+1:Nat):Int) from wrap_nat (by omega)] at this
     exact .step this (tx_rnd hW z t hl k (i+1) _ x (by omega) (by omega) (hlen _) h)
def okT (r:Option (Bool×List ExprR×Int×PosR)):Bool:=match r with
 | some _=>true
 | none=>false
def prT (r:Option (Bool×List ExprR×Int×PosR)):Bool×List ExprR×Int×PosR:=r.getD (false,[],0,p00)
theorem okT_some {r:Option (Bool×List ExprR×Int×PosR)} (h:okT r=true):r=some (prT r):=by
 cases r with
 | none=>simp [okT] at h
 | some x=>rfl
def sTx0 (z:Rdr) (t:TokR):St Pl:=mkS 104 [(0,.ptr 50000 0),(2,.ptr 2 0),(3,.ptr 3 0),(4,.ptr 4 0),(51,.pl (pParts t.parts) .any),(52,dI t.parts.length),(53,dI 0)]
 [(4,.box false (cEq 26 [] [] 0 0 [] .nilS t.p)),(3,.box false (cTok t)),(50000,.box false (cRdr z)),(2,.box false zC0)]
def sTx' (z:Rdr) (t:TokR):St Pl:=mkS 104 [(0,.ptr 50000 0),(2,.ptr 2 0),(3,.ptr 3 0),(4,.ptr 4 0),(51,.pl (pParts t.parts) .any),(52,dI t.parts.length),(53,dI 0)]
 [(64,.arr false (pExprs [])),(4,.box false (cEq 26 [] [] 0 0 [] (.arr 64) t.p)),(3,.box false (cTok t)),(50000,.box false (cRdr z)),(2,.box false zC0)]
theorem weakTx_eq (z:Rdr) (t:TokR):nilsS X0.C [(.cell 4 11,64,pExprs [])] (sTx0 z t)=sTx' z t:=by kernel_rfl
theorem weakTx (z:Rdr) (t:TokR):Weak X0 (sTx0 z t) (sTx z t [] 0):=by
 have h:=Weak.nils xok [(.cell 4 11,64,pExprs [])] (sTx0 z t)
 rw [weakTx_eq] at h
 exact h.trans (Weak.ord [4,64,3,2,50000] _)
noncomputable def LSTx (W:Whl) (S:St Pl):Option (Bool×LR Pl):=match seenS 104 [0,2,3,4,51,52,53] S with
 | some ([.ptr 50000 0,.ptr 2 0,.ptr 3 0,.ptr 4 0,.pl ⟨.parts,ps⟩ .any,.int .i64 n,.int .i64 (.ofNat 0)],[(4,.box false c4),(3,.box false [.int .i64 k,.str s,.int .i64 m,.pl ⟨.parts,ps'⟩ .any,.int .i64 a,.int .i64 b,.int .i64 c]),(50000,.box false zc),(2,.box false zr)])=>match decR [.obB 50000 zc] with
  | some z=>some (goodB (zr=zC0∧c4=cEq 26 [] [] 0 0 [] .nilS ⟨a,b,c⟩∧n=ps.length∧ps=ps'∧ps.length≤100000)&&okT (txL W ps []),.ite (prT (txL W ps [])).1 (.leaf .ret (sTxR (ndE 26 [] [] (prT (txL W ps [])).2.1) (failC z (prT (txL W ps [])).2.2.1 (prT (txL W ps [])).2.2.2)))
   (.leaf (.exit 0) (sTx z ⟨k,s,m,ps,⟨a,b,c⟩⟩ (prT (txL W ps [])).2.1 ps.length)))
  | none=>none
 | _=>none
theorem LSTx_ok {W:Whl} (hW:WhOk W):SOk X0 (loopAt 53 0) (LSTx W):=by
 intro S c r h hc
 unfold LSTx at h
 split at h
 ·rename_i ps n c4 k s m ps' x y v zc zr hs
  split at h
  ·rename_i z hz
   simp only [Option.some.injEq,Prod.mk.injEq] at h
   obtain ⟨rfl,rfl⟩:=h
   rw [Bool.and_eq_true] at hc
   obtain ⟨rfl,rfl,rfl,rfl,hl⟩:=of_goodB hc.1
   have hz':=decR_enc hz
   simp only [encR,List.cons.injEq,D.obB.injEq,true_and,and_true] at hz'
   subst hz'
   refine Goes.pre (keepOf [0,2,3,4,51,52,53]) ?_
   rw [seenS_mask hs]
   refine Goes.weakPre (weakTx z ⟨k,s,m,ps,⟨x,y,v⟩⟩) ?_
   have:=(tx_rnd hW z ⟨k,s,m,ps,⟨x,y,v⟩⟩ hl _ 0 [] _ rfl (by simp) (by simp) (okT_some hc.2)).goes
   revert this
   unfold outTx
   show Goes X0 _ _ (bif (prT (txL W ps [])).1 then _ else _:Ex×St Pl).1 (bif (prT (txL W ps [])).1 then _ else _:Ex×St Pl).2→_
   cases hb:(prT (txL W ps [])).1<;>exact id
  ·simp at h
 ·simp at h
theorem idsTx:(loopsAt 53).length=1∧firstId (loopAt 53 0)=9:=⟨by kernel_rfl,by kernel_rfl⟩
end Go.Proofs.YtcgbgcconigdbaaGreatDoor.Rd
namespace Go.Proofs.YtcgbgcconigdbaaGreatDoor.Rd
open Go.Eng Go.RowKit
set_option maxRecDepth 100000
noncomputable def textL (W:Whl) (z:Rdr) (t:TokR):Option (D Pl):=ck_ (goodB (zC0=zC0∧cEq 26 [] [] 0 0 [] .nilS t.p=cEq 26 [] [] 0 0 [] .nilS t.p∧(t.parts.length:Int)=t.parts.length∧t.parts=t.parts∧t.parts.length≤100000)&&okT (txL W t.parts []))
 (bif (prT (txL W t.parts [])).1 then env (failC z (prT (txL W t.parts [])).2.2.1 (prT (txL W t.parts [])).2.2.2) (cExN (ndE 26 [] [] (prT (txL W t.parts [])).2.1)) else env z (cEq 26 [] [] 0 0 [] (.pl (pExprs (prT (txL W t.parts [])).2.1) .any) t.p))
noncomputable def textK (W:Whl) (z:Rdr) (t:TokR):Option (D Pl):=bif (t.parts.length:Int)==0 then env z (cEq 1 [] [] 3 0 [] .nilS t.p) else
 ck_ (true&&decide ((0:Int) < t.parts.length)||!(((t.parts.length:Int)==1)==true)) (bif (bif (t.parts.length:Int)==1 then !(pt t 0).expr else false) then ck_ (true&&decide ((0:Int) < t.parts.length)||false) (env z (cEq 1 [] [] 3 0 (pt t 0).s .nilS t.p)) else textL W z t)
theorem eText (W:Whl) (z:Rdr):evM (tW W) noTL (atL 9 (LSTx W) noL) 4 Tryz.f53 (decH (encR z)) [.ptr 50000 0]=textK W (bump z) (tokZ z):=by kernel_rfl
def textZ (W:Whl) (z:Rdr):Got:=bif Nat.ble (tokZ z).parts.length 100000 then bif ((tokZ z).parts.length:Int)==0 then some (ltE 3 0 [],bump z) else
  bif (bif ((tokZ z).parts.length:Int)==1 then !(pt (tokZ z) 0).expr else false) then some (ltE 3 0 (pt (tokZ z) 0).s,bump z)
  else thn (txL W (tokZ z).parts []) fun x=>some (ndE 26 [] [] x.2.1,bif x.1 then failC (bump z) x.2.2.1 x.2.2.2 else bump z)
 else none
theorem text_ok {W:Whl} (hW:WhOk W):TxOk (textZ W):=by
 intro z e z' _ h
 have hL:=loops_of (f:=53) (fn:=Tryz.f53) (by kernel_rfl) (loops_1 idsTx.1 (L:=atL 9 (LSTx W) noL) (atL_ok (fun _=>LSTx_ok hW) fun h=>absurd idsTx.2 h))
 have fin:=fun (cs:List (D Pl)) (h1:textK W (bump z) (tokZ z)=env z' cs) (h2:asN (.agg cs)=some e)=>show SndR 53 z [] (.agg (cExN e)) z' from sndE_of (tW_ok hW.snd) (n:=4) (fn:=Tryz.f53) (by kernel_rfl) hL ((eText W z).trans h1) h2
 unfold textZ at h
 generalize tokZ z=t at h fin
 cases hl:Nat.ble t.parts.length 100000 with
 | false=>rw [hl] at h;cases h
 | true =>
  rw [hl,cond_true] at h
  unfold textK at fin
  cases h0:(t.parts.length:Int)==0 with
  | true =>
   rw [h0] at h fin
   simp only [cond_true,Option.some.injEq,Prod.mk.injEq] at h
   obtain ⟨rfl,rfl⟩:=h
   exact fin _ rfl rfl
  | false =>
   rw [h0,cond_false] at h fin
   have hpos:0 < t.parts.length:=Nat.pos_of_ne_zero fun h=>by rw [h] at h0;cases h0
   have hd:decide ((0:Int) < t.parts.length)=true:=decide_eq_true (by omega)
   rw [hd] at fin
   cases h1:(bif (t.parts.length:Int)==1 then !(pt t 0).expr else false) with
   | true =>
    rw [h1] at h fin
    simp only [cond_true,Option.some.injEq,Prod.mk.injEq] at h
    obtain ⟨rfl,rfl⟩:=h
    exact fin _ rfl rfl
   | false =>
    rw [h1,cond_false] at h fin
    cases hx:txL W t.parts [] with
    | none=>rw [hx] at h;cases h
    | some x =>
     rw [hx] at h
     simp only [thn,Option.some.injEq,Prod.mk.injEq] at h
     obtain ⟨rfl,rfl⟩:=h
     unfold textL at fin
     rw [hx,goodB_t ⟨rfl,rfl,rfl,rfl,Nat.le_of_ble_eq_true hl⟩] at fin
     have hp:prT (some x)=x:=rfl
     rw [hp] at fin
     cases c:x.1 with
     | true=>rw [c] at fin;exact fin _ rfl rfl
     | false=>rw [c] at fin;exact fin _ rfl rfl
end Go.Proofs.YtcgbgcconigdbaaGreatDoor.Rd
namespace Go.Proofs.YtcgbgcconigdbaaGreatDoor.Rd
open Go.Eng Go.RowKit
set_option maxRecDepth 100000
def tWl (P:Nat→Rdr→Got) (TZ:Rdr→Got):Eng.Told Pl:=tP P TZ (tell 9 pAll tell0)
theorem tWl_ok {P:Nat→Rdr→Got} {TZ:Rdr→Got} (hP:Deep P) (hT:TxOk TZ):TOk (tWl P TZ):=tP_ok hP hT (tell_ok pAll_ok (tell0_ok _))
def zS (s:Str):Rdr:=⟨(allM s).l,0,0,p00⟩
def whF (e:ExprR) (z:Rdr):Option (D Pl):=bif !(z.c==0) then some (.tup [.agg zC0,.agg (dgC z.c z.p)]) else some (.tup [.agg (cExN e),.agg (dgC 0 p00)])
def whK (P:Nat→Rdr→Got) (s:Str):Option (D Pl) :=
 bif !((allM s).bad==0) then some (.tup [.agg zC0,.agg (dgC (allM s).bad (allM s).bp)])
 else ckG (P 0 (zS s)) fun e z=>bif (bif z.c==0 then !((tokZ z).kind==0) else false) then whF e (failZ z (tokZ z).p) else whF e z
theorem eWh (P:Nat→Rdr→Got) (TZ:Rdr→Got) (s:Str):ev (tWl P TZ) noTL 5 7 [.str s]=whK P s:=by kernel_rfl
mutual
def bareB:ExprR→Bool
 | ⟨_,_,_,v,l,_⟩=>v.l.isEmpty&&(v.keys.isEmpty&&bareBs l)
def bareBs:List ExprR→Bool
 | []=>true
 | e::r=>bareB e&&bareBs r
end
mutual
theorem bare_of:∀e:ExprR,bareB e=true→Bare e
 | ⟨op,s,s2,v,l,p⟩,h=>by
  simp only [bareB,Bool.and_eq_true,List.isEmpty_iff] at h
  exact .mk _ h.1 h.2.1 (bares_of l h.2.2)
theorem bares_of:∀l:List ExprR,bareBs l=true→∀x,x∈l→Bare x
 | [],_=>fun x hx=>by cases hx
 | e::r,h=>by
  simp only [bareBs,Bool.and_eq_true] at h
  have h1:=bare_of e h.1
  have h2:=bares_of r h.2
  intro x hx
  rcases List.mem_cons.1 hx with rfl | hx
  ·exact h1
  ·exact h2 x hx
end
mutual
theorem bare_b:∀e:ExprR,Bare e→bareB e=true
 | ⟨op,s,s2,v,l,p⟩,h=>by
  cases h with
  | mk _ h1 h2 h3 =>
   have h1:v.l=[]:=h1
   have h2:v.keys=[]:=h2
   simp only [bareB,h1,h2,bares_b l h3,List.isEmpty_nil,Bool.and_self]
theorem bares_b:∀l:List ExprR,(∀x,x∈l→Bare x)→bareBs l=true
 | [],_=>by simp only [bareBs]
 | e::r,h=>by simp only [bareBs,bare_b e (h e (by simp)),bares_b r fun x hx=>h x (by simp [hx]),Bool.and_self]
end
def rdrE (z:Rdr):Rdr:=bif (bif z.c==0 then !((tokZ z).kind==0) else false) then failZ z (tokZ z).p else z
def wholeP (TZ:Rdr→Got) (n:Nat):Whl:=fun s =>
 bif !((allM s).bad==0) then some (e00,(allM s).bad,(allM s).bp) else match readP TZ n 0 (zS s) with
  | none=>none
  | some (e,z)=>bif !((rdrE z).c==0) then some (e00,(rdrE z).c,(rdrE z).p) else bif bareB e then some (e,0,p00) else none
theorem whole_ok {TZ:Rdr→Got} (hT:TxOk TZ) {n:Nat} (hn:n≤1000000000):WhOk (wholeP TZ n) where
  snd:=by
    intro s e c p h
    have key:=fun (cs:List (D Pl)) (d:D Pl) (h:whK (readP TZ n) s=some (.tup [.agg cs,d])) (he:asN (.agg cs)=some e)=>show Snd 7 [.str s] (.tup [.agg (cExN e),d]) from
      SoundAt.post (RDle.tup (.cons (asN_rdle he) (.cons (RDle.refl _) .nil))) (snd_of (tWl_ok (read_deep hT n hn) hT) (noTL_ok _ _) ((eWh (readP TZ n) TZ s).trans h))
    unfold wholeP at h
    unfold whK at key
    cases hb:(allM s).bad==0 with
    | false =>
      rw [hb] at h key
      simp only [Bool.not_false,cond_true,Option.some.injEq,Prod.mk.injEq] at h
      obtain ⟨rfl,rfl,rfl⟩:=h
      exact key _ _ rfl rfl
    | true =>
      rw [hb] at h key
      simp only [Bool.not_true,cond_false] at h key
      cases hr:readP TZ n 0 (zS s) with
      | none=>rw [hr] at h;cases h
      | some q =>
        obtain ⟨e1,z⟩:=q
        rw [hr] at h
        rw [ckG_eq,hr] at key
        simp only [thenG] at h key
        have hk:(bif (bif z.c==0 then !((tokZ z).kind==0) else false) then whF e1 (failZ z (tokZ z).p) else whF e1 z)=whF e1 (rdrE z):=by
          unfold rdrE
          cases (bif z.c==0 then !((tokZ z).kind==0) else false)<;>rfl
        rw [hk] at key
        generalize hy:rdrE z=y at h key
        unfold whF at key
        cases hw:y.c==0 with
        | false =>
          rw [hw] at h key
          simp only [Bool.not_false,cond_true,Option.some.injEq,Prod.mk.injEq] at h
          obtain ⟨rfl,rfl,rfl⟩:=h
          exact key _ _ rfl rfl
        | true =>
          rw [hw] at h key
          simp only [Bool.not_true,cond_false] at h key
          cases hb2:bareB e1 with
          | false=>rw [hb2] at h;cases h
          | true =>
            rw [hb2] at h
            simp only [cond_true,Option.some.injEq,Prod.mk.injEq] at h
            obtain ⟨rfl,rfl,rfl⟩:=h
            refine SoundAt.post (RDle.refl _) (snd_of (tWl_ok (read_deep hT n hn) hT) (noTL_ok _ _) ((eWh (readP TZ n) TZ s).trans ?_))
            unfold whK
            rw [hb,ckG_eq,hr]
            simp only [thenG,Bool.not_true,cond_false]
            rw [hk,hy]
            unfold whF
            rw [hw]
            rfl
  bare := by
    intro s e p h
    unfold wholeP at h
    cases hb:(allM s).bad==0 with
    | false =>
      rw [hb] at h
      simp only [Bool.not_false,cond_true,Option.some.injEq,Prod.mk.injEq] at h
      rw [h.2.1] at hb
      cases hb
    | true =>
      rw [hb] at h
      simp only [Bool.not_true,cond_false] at h
      cases hr:readP TZ n 0 (zS s) with
      | none=>rw [hr] at h;cases h
      | some q =>
        obtain ⟨e1,z⟩:=q
        rw [hr] at h
        simp only at h
        cases hw:(rdrE z).c==0 with
        | false =>
          rw [hw] at h
          simp only [Bool.not_false,cond_true,Option.some.injEq,Prod.mk.injEq] at h
          rw [h.2.1] at hw
          cases hw
        | true =>
          rw [hw] at h
          cases hb2:bareB e1 with
          | false=>rw [hb2] at h;cases h
          | true =>
            rw [hb2] at h
            simp only [Bool.not_true,cond_false,cond_true,Option.some.injEq,Prod.mk.injEq] at h
            rw [←h.1]
            exact bare_of _ hb2
def nR:Nat:=1000001
def WP1:Whl:=wholeP (fun _=>none) nR
theorem WP1_ok:WhOk WP1:=whole_ok (fun z e z' _ h=>by cases h) (by decide)
def WP2:Whl:=wholeP (textZ WP1) nR
theorem WP2_ok:WhOk WP2:=whole_ok (text_ok WP1_ok) (by decide)
end Go.Proofs.YtcgbgcconigdbaaGreatDoor.Rd
