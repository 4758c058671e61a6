/-
 WHAT THE PROGRAM's READER READS: in braces.
-/
import Derived.Test.YtcgbgcconigdbaaGreatDoorFilt
namespace Go.Proofs.YtcgbgcconigdbaaGreatDoor.Rd
open Go.Eng
set_option maxRecDepth 100000
def pLst (P:Nat→Rdr→Got) (TZ:Rdr→Got) (m:Nat) (z:Rdr):List (D Pl)→Option (Bool×D Pl×Rdr)
 | [.str e,.fn g []]=>bif Nat.beq g 72 then some (okG (listP (itemP P) m e z),.pl (pExprs (exL (listP (itemP P) m e z))) .any,rdL (listP (itemP P) m e z))
  else bif Nat.beq g 77 then some (okG (listP (pairP P TZ) m e z),.pl (pExprs (exL (listP (pairP P TZ) m e z))) .any,rdL (listP (pairP P TZ) m e z)) else none
 | _=>none
theorem pLst_ok {P:Nat→Rdr→Got} {TZ:Rdr→Got} (hP:Deep P) (hT:TxOk TZ) {m:Nat} (hm:m≤1000000000):∀z args c d z',pLst P TZ m z args=some (c,d,z')→c=true→SndR 71 z args d z':=by
 intro z args c d z' h hc
 unfold pLst at h
 split at h
 ·rename_i e g
  cases h1:Nat.beq g 72 with
  | true =>
   rw [h1] at h
   simp only [cond_true,Option.some.injEq,Prod.mk.injEq] at h
   obtain ⟨h2,rfl,rfl⟩:=h
   obtain rfl:=Nat.eq_of_beq_eq_true h1
   exact list_item hP hT hm (okL_some (h2.trans hc))
  | false =>
  rw [h1,cond_false] at h
  cases h2:Nat.beq g 77 with
  | true =>
   rw [h2] at h
   simp only [cond_true,Option.some.injEq,Prod.mk.injEq] at h
   obtain ⟨h3,rfl,rfl⟩:=h
   obtain rfl:=Nat.eq_of_beq_eq_true h2
   exact list_pair hP hT hm (okL_some (h3.trans hc))
  | false=>rw [h2] at h;cases h
 ·cases h
def tB (P:Nat→Rdr→Got) (TZ:Rdr→Got) (m:Nat) (R:Eng.Told Pl):Eng.Told Pl:=tP P TZ (tellM 71 (pR (pLst P TZ m)) R)
theorem tB_ok {P:Nat→Rdr→Got} {TZ:Rdr→Got} (hP:Deep P) (hT:TxOk TZ) {m:Nat} (hm:m≤1000000000) {R:Eng.Told Pl} (h:TOk R):TOk (tB P TZ m R):=tP_ok hP hT (tellM_ok (pR_ok (pLst_ok hP hT hm)) h)
def pHd (P:Nat→Rdr→Got):List (D Pl)→List (D Pl)→Option (Bool×D Pl×List (D Pl)):=fun os ds=>match os with
 | [.obB 50000 zc,.obB 50001 [.int .i64 op,.str [],.str [],.int .i64 (.ofNat 0),.int .i64 (.ofNat 0),.str [],.nilS,.nilS,.int .i64 (.ofNat 0),.int .i64 (.ofNat 0),.bool false,.nilS,.int .i64 a,.int .i64 b,.int .i64 c]]=>(match ds with
  | [.ptr 50000 0,.ptr 50001 0]=>(match decR [.obB 50000 zc] with
   | some z=>some (okG (P 0 (kwZ (hdZ z) [105,110])),.tup [],osHe op (hdS z) (hdT z) ⟨a,b,c⟩ (mustZ (rdG (P 0 (kwZ (hdZ z) [105,110]))) [58]) [nP (exG (P 0 (kwZ (hdZ z) [105,110])))])
   | none=>none)
  | _=>none)
 | _=>none
theorem pHd_ok {P:Nat→Rdr→Got} {TZ:Rdr→Got} (hP:Deep P) (hT:TxOk TZ):∀os ds b d os',pHd P os ds=some (b,d,os')→b=true→SndM 74 (decH os) ds d (decH os'):=by
 intro os ds b d os' h hb
 unfold pHd at h
 split at h
 ·rename_i zc op a b c
  split at h
  ·split at h
   ·rename_i z hz
    simp only [Option.some.injEq,Prod.mk.injEq] at h
    obtain ⟨h1,rfl,rfl⟩:=h
    have hz':=decR_enc hz
    simp only [encR,List.cons.injEq,D.obB.injEq,true_and,and_true] at hz'
    subst hz'
    exact head_sound hP hT (op:=op) (p:=⟨a,b,c⟩) (okG_some (h1.trans hb))
   ·cases h
  ·cases h
 ·cases h
def pFl (P:Nat→Rdr→Got):List (D Pl)→List (D Pl)→Option (Bool×D Pl×List (D Pl)):=fun os ds=>match os with
 | [.obB 50000 zc,.obB 50001 [.int .i64 op,.str s,.str s2,.int .i64 (.ofNat 0),.int .i64 (.ofNat 0),.str [],.nilS,.nilS,.int .i64 (.ofNat 0),.int .i64 (.ofNat 0),.bool false,.arr 101011,.int .i64 a,.int .i64 b,.int .i64 c],.obA 101011 ⟨.exprs,x::y::l⟩]=>(match ds with
  | [.ptr 50000 0,.ptr 50001 0,.str e]=>(match decR [.obB 50000 zc],l with
   | some z,[]=>some (okG (flR P e [x,y] z),.tup [],osHe op s s2 ⟨a,b,c⟩ (rdL (flR P e [x,y] z)) (exL (flR P e [x,y] z)))
   | some z,[w]=>some (okG (flR P e [x,y,w] z),.tup [],osHe op s s2 ⟨a,b,c⟩ (rdL (flR P e [x,y,w] z)) (exL (flR P e [x,y,w] z)))
   | _,_=>none)
  | _=>none)
 | _=>none
theorem pFl_ok {P:Nat→Rdr→Got} {TZ:Rdr→Got} (hP:Deep P) (hT:TxOk TZ):∀os ds b d os',pFl P os ds=some (b,d,os')→b=true→SndM 75 (decH os) ds d (decH os'):=by
 intro os ds b d os' h hb
 unfold pFl at h
 split at h
 ·rename_i zc op s s2 a b c x y l
  split at h
  ·split at h
   ·rename_i z hz
    simp only [Option.some.injEq,Prod.mk.injEq] at h
    obtain ⟨h1,rfl,rfl⟩:=h
    have hz':=decR_enc hz
    simp only [encR,List.cons.injEq,D.obB.injEq,true_and,and_true] at hz'
    subst hz'
    exact filt_sound hP hT (op:=op) (s:=s) (s2:=s2) (p:=⟨a,b,c⟩) (.inl ⟨_,_,rfl⟩) (okL_some (h1.trans hb))
   ·rename_i z w hz
    simp only [Option.some.injEq,Prod.mk.injEq] at h
    obtain ⟨h1,rfl,rfl⟩:=h
    have hz':=decR_enc hz
    simp only [encR,List.cons.injEq,D.obB.injEq,true_and,and_true] at hz'
    subst hz'
    exact filt_sound hP hT (op:=op) (s:=s) (s2:=s2) (p:=⟨a,b,c⟩) (.inr ⟨_,_,_,rfl⟩) (okL_some (h1.trans hb))
   ·cases h
  ·cases h
 ·cases h
def tG (P:Nat→Rdr→Got) (TZ:Rdr→Got) (m:Nat):Eng.Told Pl:=tB P TZ m (tellM 74 (pHd P) (tellM 75 (pFl P) tell0))
theorem tG_ok {P:Nat→Rdr→Got} {TZ:Rdr→Got} (hP:Deep P) (hT:TxOk TZ) {m:Nat} (hm:m≤1000000000):TOk (tG P TZ m):=tB_ok hP hT hm (tellM_ok (pHd_ok hP hT) (tellM_ok (pFl_ok hP hT) (tell0_ok _)))
noncomputable abbrev evRo (R:Eng.Told Pl) (n:Nat) (code:Code) (keep names:List Nat) (S:St Pl):Option (Ex×St Pl):=exec X0 (callK X0 F0 R noTL n) noL code S (fun e S=>some (e,ordS names (maskS (keepOf keep) S)))
theorem goesRo {R:Eng.Told Pl} (hR:TOk R) {n:Nat} {code:Code} {keep names:List Nat} {S S':St Pl} {e:Ex} (h:evRo R n code keep names S=some (e,S')):GoesX code S e S':=by
 obtain ⟨e1,S1,h1,h2⟩:=body_goes xok fok hR (noTL_ok _ _) (fun b _=>noL_ok _ b) h
 simp only [Option.some.injEq,Prod.mk.injEq] at h1
 obtain ⟨rfl,rfl⟩:=h1
 exact (h2.post _).weak (Weak.ord _ _)
open Mv (seqL seqR opsOf idOf)
noncomputable def brB:Code:=codeOf 55
noncomputable def br0:Code:=seqL brB
noncomputable def br1:Code:=seqL (seqL (seqR brB))
noncomputable def br2:Code:=seqL (seqR (seqL (seqR brB)))
noncomputable def br3:Code:=seqL (seqR (seqR brB))
noncomputable def br4:Code:=seqL (seqR (seqR (seqR brB)))
noncomputable def br5:Code:=seqL (seqR (seqR (seqR (seqR brB))))
noncomputable def br6:Code:=seqL (seqR (seqR (seqR (seqR (seqR brB)))))
noncomputable def br7:Code:=seqR (seqR (seqR (seqR (seqR (seqR brB)))))
theorem brB_eq:brB=.seq br0 (.seq (.seq br1 (.cond (.tmp 8) br2 .skip)) (.seq br3 (.seq br4 (.seq br5 (.seq br6 br7))))):=by kernel_rfl
theorem br5_eq:br5=.region 5 (opsOf br5) true:=by kernel_rfl
noncomputable def tabB:List Nat:=makeN (opsOf br5)
theorem tabB_ok:tabN (opsOf br5) tabB 2047=true:=by kernel_rfl
def sBr (p:PosR) (z:Rdr):St Pl:=mkS 29 [(0,.ptr 50000 0),(1,.agg (Mv.cP3 p))] [(50000,.box false (cRdr z))]
def sB1 (p:PosR) (z:Rdr):St Pl:=mkS 29 [(0,.ptr 50000 0),(3,.ptr 3 0),(4,.ptr 4 0)] [(4,.box false Mv.zC),(3,.box false (Mv.cP3 p)),(50000,.box false (cRdr z))]
def sB8 (p:PosR) (z:Rdr):St Pl:=mkS 29 [(0,.ptr 50000 0),(3,.ptr 3 0),(4,.ptr 4 0),(8,.bool !(wdB z [102,111,114]))] [(4,.box false Mv.zC),(3,.box false (Mv.cP3 p)),(50000,.box false (cRdr z))]
def sB3 (p:PosR) (z:Rdr):St Pl:=mkS 29 [(0,.ptr 50000 0),(3,.ptr 3 0),(4,.ptr 4 0),(5,.ptr 5 0)] [(5,.box false (cEq 24 [] [] 0 0 [] .nilS p)),(4,.box false Mv.zC),(3,.box false (Mv.cP3 p)),(50000,.box false (cRdr z))]
def sBl (n:Nat) (s s2:Str) (p:PosR) (z:Rdr) (l:List ExprR):St Pl:=mkS 29 [(0,.ptr 50000 0),(3,.ptr 3 0),(4,.ptr 4 0),(5,.ptr 5 0)] [(50000,.box false (cRdr z)),(3,.box false (Mv.cP3 p)),(4,.box false Mv.zC),(5,.box false (cEq 24 s s2 0 0 [] (.arr n) p)),(n,.arr false (pExprs l))]
def nmB:List Nat:=[50000,3,4,5,10005011,23]
noncomputable def fBr (P:Nat→Rdr→Got) (TZ:Rdr→Got) (s s2:Str) (p:PosR) (z:Rdr) (l:List ExprR) (m:Nat):St Pl :=
 ordS nmB (runB (tP P TZ tell0) 3 nmB (opsOf br5) 3 (cuS 20 (exG (P 0 z)) (rdG (P 0 z))) m (sBl 10005011 s s2 p z l))
section
variable (P:Nat→Rdr→Got) (TZ:Rdr→Got) (m:Nat) (s s2:Str) (p:PosR) (z:Rdr) (a b c:ExprR) (l:List ExprR)
theorem eBr0:evR (tG P TZ m) 3 br0 [0,3,4] (sBr p z)=some (.normal,sB1 p z):=by kernel_rfl
theorem eBr1:evR (tG P TZ m) 3 br1 [0,3,4,8] (sB1 p z)=some (.normal,sB8 p z):=by kernel_rfl
def sBx (p:PosR) (op:Int) (s s2:Str) (z:Rdr) (l:List ExprR):St Pl:=mkS 29 [(0,.ptr 50000 0),(4,.ptr 4 0)] [(50000,.box false (cRdr z)),(4,.box false (cEq op s s2 0 0 [] (.pl (pExprs l) .any) p)),(3,.box false (Mv.cP3 p))]
theorem eBr2:evRo (tG P TZ m) 3 br2 [0,4] [50000,4,3] (sB8 p z)=ck_ (okG (listP (itemP P) m [93] z)) (some (.ret,sBx p 22 [] [] (rdL (listP (itemP P) m [93] z)) (exL (listP (itemP P) m [93] z)))):=by kernel_rfl
theorem eBr3:evR (tG P TZ m) 3 br3 [0,3,4,5] (sB8 p z)=some (.normal,sB3 p z):=by kernel_rfl
theorem fBr_ok:(pairsN (opsOf br5) tabB).map (fun q=>stepO (tP P TZ tell0) 3 nmB (opsOf br5) q.2 (fBr P TZ s s2 p z [a] q.1))=(pairsN (opsOf br5) tabB).map (fun q=>ck_ (bif Nat.beq q.2 3 then okG (P 0 z) else true) (some (fBr P TZ s s2 p z [a] (q.1+2 ^ q.2)))):=by kernel_rfl
theorem eBr5:fBr P TZ s s2 p z l 0=sBl 10005011 s s2 p z l:=by kernel_rfl
theorem eBr5':maskS (keepOf [0,3,4,5]) (fBr P TZ s s2 p z [a] 2047)=sBl 23 s s2 p (rdG (P 0 z)) [a,nP (exG (P 0 z))]:=by kernel_rfl
theorem eBr4:evRo (tG P TZ m) 3 br4 [0,3,4,5] nmB (sB3 p z)=ck_ (okG (P 0 (kwZ (hdZ z) [105,110]))) (some (.normal,sBl 10005011 (hdS z) (hdT z) p (mustZ (rdG (P 0 (kwZ (hdZ z) [105,110]))) [58]) [nP (exG (P 0 (kwZ (hdZ z) [105,110])))])):=by kernel_rfl
theorem eBr6:evRo (tG P TZ m) 3 br6 [0,3,4,5] nmB (sBl 23 s s2 p z [a,b])=ck_ (okG (flR P [93] [a,b] z)) (some (.normal,sBl 10005011 s s2 p (rdL (flR P [93] [a,b] z)) (exL (flR P [93] [a,b] z)))):=by kernel_rfl
def sBy (p:PosR) (op:Int) (s s2:Str) (z:Rdr) (l:List ExprR):St Pl:=mkS 29 [(0,.ptr 50000 0),(4,.ptr 4 0)] [(50000,.box false (cRdr z)),(3,.box false (Mv.cP3 p)),(4,.box false (cEq op s s2 0 0 [] (.arr 10005011) p)),(5,.box false (cEq op s s2 0 0 [] (.arr 10005011) p)),(10005011,.arr false (pExprs l))]
theorem eBr7:evRo (tG P TZ m) 3 br7 [0,4] nmB (sBl 10005011 s s2 p z l)=some (.ret,sBy p 24 s s2 z l):=by kernel_rfl
theorem finBr2 (z0:Rdr) (op:Int):finM X0 Tryz.f55 (decH (encR z0)) (sBx p op s s2 z l)=env z (cEq op s s2 0 0 [] (.pl (pExprs l) .any) p):=by kernel_rfl
theorem finBr7 (z0:Rdr) (op:Int):finM X0 Tryz.f55 (decH (encR z0)) (sBy p op s s2 z l)=env z (cEq op s s2 0 0 [] (.pl (pExprs l) .any) p):=by kernel_rfl
theorem bEv:evK X0 (sB8 p z).tm [] (.tmp 8)=.bool !(wdB z [102,111,114]):=by kernel_rfl
end
theorem brack_sound {P:Nat→Rdr→Got} {TZ:Rdr→Got} (hP:Deep P) (hT:TxOk TZ) {m:Nat} (hm:m≤1000000000) {p:PosR} {z z':Rdr} {e:ExprR} (h:brackP P m z=some (e,z')):SndR 55 z [.agg (Mv.cP3 p)] (.agg (cExN e)) z':=by
 have hR:=tG_ok hP hT hm
 have fin:∀{S:St Pl} {op:Int} {s s2:Str} {l:List ExprR} {z1:Rdr},GoesX brB (sBr p z) .ret S→finM X0 Tryz.f55 (decH (encR z)) S=env z1 (cEq op s s2 0 0 [] (.pl (pExprs l) .any) p)→some (ndE op s s2 l,z1)=some (e,z')→SndR 55 z [.agg (Mv.cP3 p)] (.agg (cExN e)) z':=by
  intro S op s s2 l z1 hgo hfin hq
  simp only [Option.some.injEq,Prod.mk.injEq] at hq
  obtain ⟨rfl,rfl⟩:=hq
  obtain ⟨h1,h2⟩:=fok 55 Tryz.f55 (by kernel_rfl)
  obtain ⟨os,d,he,hs⟩:=fnM_goes (X:=X0) xok (fn:=Tryz.f55) (cd:=brB) (ds:=[.ptr 50000 0,.agg (Mv.cP3 p)]) (H:=decH (encR z)) h1 h2 (by kernel_rfl) hgo (fun _ h=>by cases h) hfin
  simp only [D.env.injEq] at he
  obtain ⟨rfl,rfl⟩:=he
  exact SoundM.post (asN_rdle rfl) hs
 have h0:=goesR hR (eBr0 P TZ m p z)
 have h1:=goesR hR (eBr1 P TZ m p z)
 unfold brackP at h
 cases hw:wdB z [102,111,114] with
 | false =>
  rw [hw] at h
  simp only [Bool.not_false,cond_true] at h
  cases hx:listP (itemP P) m [93] z with
  | none=>rw [hx] at h;cases h
  | some q =>
  rw [hx] at h
  simp only [thenG] at h
  refine fin (S:=sBx p 22 [] [] q.2 q.1) ?_ (finBr2 _ _ p _ _ z 22) h
  rw [brB_eq]
  refine goes_seq h0 (goes_seqX (goes_seq h1 (goes_cond (t:=true) ((bEv p z).trans (by rw [hw];rfl)) ?_)) (by simp))
  rw [if_pos rfl]
  exact goesRo hR ((eBr2 P TZ m p z).trans (by rw [hx];rfl))
 | true =>
  rw [hw] at h
  simp only [Bool.not_true,cond_false] at h
  rw [headP_eq] at h
  cases hx:P 0 (kwZ (hdZ z) [105,110]) with
  | none=>rw [hx] at h;cases h
  | some q =>
  rw [hx] at h
  simp only [thenG] at h
  cases hy:P 0 (mustZ q.2 [58]) with
  | none=>rw [hy] at h;cases h
  | some r =>
  rw [hy] at h
  simp only at h
  rw [filtP_eq] at h
  cases hf:flR P [93] ([nP q.1]++[nP r.1]) r.2 with
  | none=>rw [hf] at h;cases h
  | some v =>
  rw [hf] at h
  simp only [thenG] at h
  have hf:flR P [93] [nP q.1,nP r.1] r.2=some v:=hf
  refine fin (S:=sBy p 24 (hdS z) (hdT z) v.2 v.1) ?_ (finBr7 _ _ p _ _ z 24) h
  rw [brB_eq]
  have h4:GoesX br4 (sB3 p z) .normal (sBl 10005011 (hdS z) (hdT z) p (mustZ q.2 [58]) [nP q.1]):=goesRo hR ((eBr4 P TZ m p z).trans (by rw [hx];rfl))
  have h5:GoesX br5 (sBl 10005011 (hdS z) (hdT z) p (mustZ q.2 [58]) [nP q.1]) .normal (sBl 23 (hdS z) (hdT z) p r.2 [nP q.1,nP r.1]):=by
   rw [br5_eq,←eBr5 P TZ]
   have:=(draw_goes (tP_ok hP hT (tell0_ok X0)) (c:=okG (P 0 (mustZ q.2 [58]))) (id:=5) (by rw [hy];rfl) tabB_ok (by kernel_rfl) (fBr_ok P TZ (hdS z) (hdT z) p (mustZ q.2 [58]) (nP q.1))).post (keepOf [0,3,4,5])
   rw [eBr5',hy] at this
   exact this
  have h6:GoesX br6 (sBl 23 (hdS z) (hdT z) p r.2 [nP q.1,nP r.1]) .normal (sBl 10005011 (hdS z) (hdT z) p v.2 v.1):=goesRo hR ((eBr6 P TZ m _ _ p r.2 _ _).trans (by rw [hf];rfl))
  refine goes_seq h0 (goes_seq (goes_seq h1 (goes_cond (t:=false) ((bEv p z).trans (by rw [hw];rfl)) (S':=sB8 p z) (e:=.normal) (fun g a w hS hK Q hQ=>by
   rw [if_neg (by simp)]
   exact wp_skip (hQ g.rho a w hS hK)))) (goes_seq (goesR hR (eBr3 P TZ m p z)) (goes_seq h4 (goes_seq h5 (goes_seq h6 (goesRo hR (eBr7 P TZ m _ _ p _ _)))))))
end Go.Proofs.YtcgbgcconigdbaaGreatDoor.Rd
namespace Go.Proofs.YtcgbgcconigdbaaGreatDoor.Rd
open Go.Eng
open Mv (seqL seqR opsOf idOf)
set_option maxRecDepth 100000
theorem eAh (z:Rdr):ev (tK tell0) noTL 3 76 [.ref (cRdr z)]=bif !(wdB z [102,111,114]) then some (.bool false) else
  bif (!(isA z.l (IntKind.i64.wrap (z.a+1)) 0 [61]))==true then some (.bool !(isA z.l (IntKind.i64.wrap (z.a+1)) 0 [58])) else some (.bool false):=by kernel_rfl
theorem ahead_sound (z:Rdr):Snd 76 [.ref (cRdr z)] (.bool (aheadB z)):=snd_of (n:=3) (tK_ok (tell0_ok _)) (noTL_ok _ _) ((eAh z).trans (by
 unfold aheadB
 cases wdB z [102,111,114]<;>cases isA z.l (IntKind.i64.wrap (z.a+1)) 0 [61]<;>rfl))
def pAh:List (D Pl)→Option (Bool×D Pl)
 | [.ref [.pl ⟨.toks,l⟩ .any,.int .i64 a,.int .i64 c,.int .i64 x,.int .i64 y,.int .i64 w,.str []]]=>some (true,.bool (aheadB ⟨l,a,c,⟨x,y,w⟩⟩))
 | _=>none
theorem pAh_ok:∀ds b d,pAh ds=some (b,d)→b=true→Snd 76 ds d:=by
 intro ds b d h _
 unfold pAh at h
 split at h
 ·simp only [Option.some.injEq,Prod.mk.injEq] at h
  obtain ⟨_,rfl⟩:=h
  exact ahead_sound ⟨_,_,_,⟨_,_,_⟩⟩
 ·simp at h
def tH (P:Nat→Rdr→Got) (TZ:Rdr→Got) (m:Nat):Eng.Told Pl:=tell 76 pAh (tG P TZ m)
theorem tH_ok {P:Nat→Rdr→Got} {TZ:Rdr→Got} (hP:Deep P) (hT:TxOk TZ) {m:Nat} (hm:m≤1000000000):TOk (tH P TZ m):=tell_ok pAh_ok (tG_ok hP hT hm)
noncomputable def bcB:Code:=codeOf 56
noncomputable def bc0:Code:=seqL bcB
noncomputable def bc1:Code:=seqL (seqL (seqR bcB))
noncomputable def bc2:Code:=seqL (seqR (seqL (seqR bcB)))
noncomputable def bc3:Code:=seqL (seqR (seqR bcB))
noncomputable def bc4:Code:=seqL (seqR (seqR (seqR bcB)))
noncomputable def bc5:Code:=seqL (seqR (seqR (seqR (seqR bcB))))
noncomputable def bc6:Code:=seqL (seqR (seqR (seqR (seqR (seqR bcB)))))
noncomputable def bc7:Code:=seqL (seqR (seqR (seqR (seqR (seqR (seqR bcB))))))
noncomputable def bc8:Code:=seqL (seqR (seqR (seqR (seqR (seqR (seqR (seqR bcB)))))))
noncomputable def bc9:Code:=seqR (seqR (seqR (seqR (seqR (seqR (seqR (seqR bcB)))))))
theorem bcB_eq:bcB=.seq bc0 (.seq (.seq bc1 (.cond (.tmp 8) bc2 .skip)) (.seq bc3 (.seq bc4 (.seq bc5 (.seq bc6 (.seq bc7 (.seq bc8 bc9))))))):=by kernel_rfl
theorem bc5_eq:bc5=.region 5 (opsOf bc5) true:=by kernel_rfl
theorem bc7_eq:bc7=.region 7 (opsOf bc7) true:=by kernel_rfl
noncomputable def tabC:List Nat:=makeN (opsOf bc5)
theorem tabC_ok:tabN (opsOf bc5) tabC 2047=true:=by kernel_rfl
noncomputable def tabC7:List Nat:=makeN (opsOf bc7)
theorem tabC7_ok:tabN (opsOf bc7) tabC7 2047=true:=by kernel_rfl
def sBc (p:PosR) (z:Rdr):St Pl:=mkS 40 [(0,.ptr 50000 0),(1,.agg (Mv.cP3 p))] [(50000,.box false (cRdr z))]
def sC1 (p:PosR) (z:Rdr):St Pl:=mkS 40 [(0,.ptr 50000 0),(3,.ptr 3 0),(4,.ptr 4 0)] [(4,.box false Mv.zC),(3,.box false (Mv.cP3 p)),(50000,.box false (cRdr z))]
def sC8 (p:PosR) (z:Rdr):St Pl:=mkS 40 [(0,.ptr 50000 0),(3,.ptr 3 0),(4,.ptr 4 0),(8,.bool !(aheadB z))] [(4,.box false Mv.zC),(3,.box false (Mv.cP3 p)),(50000,.box false (cRdr z))]
def sC3 (p:PosR) (z:Rdr):St Pl:=mkS 40 [(0,.ptr 50000 0),(3,.ptr 3 0),(4,.ptr 4 0),(5,.ptr 5 0)] [(5,.box false (cEq 25 [] [] 0 0 [] .nilS p)),(4,.box false Mv.zC),(3,.box false (Mv.cP3 p)),(50000,.box false (cRdr z))]
def sCl (n:Nat) (s s2:Str) (p:PosR) (z:Rdr) (l:List ExprR):St Pl:=mkS 40 [(0,.ptr 50000 0),(3,.ptr 3 0),(4,.ptr 4 0),(5,.ptr 5 0)] [(50000,.box false (cRdr z)),(3,.box false (Mv.cP3 p)),(4,.box false Mv.zC),(5,.box false (cEq 25 s s2 0 0 [] (.arr n) p)),(n,.arr false (pExprs l))]
def nmC:List Nat:=[50000,3,4,5,10005011,23,34]
noncomputable def fBc (P:Nat→Rdr→Got) (TZ:Rdr→Got) (s s2:Str) (p:PosR) (z:Rdr) (l:List ExprR) (m:Nat):St Pl :=
 ordS nmC (runB (tP P TZ tell0) 3 nmC (opsOf bc5) 3 (cuS 20 (exG (P 0 z)) (rdG (P 0 z))) m (sCl 10005011 s s2 p z l))
noncomputable def fBd (P:Nat→Rdr→Got) (TZ:Rdr→Got) (s s2:Str) (p:PosR) (z:Rdr) (l:List ExprR) (m:Nat):St Pl :=
 ordS nmC (runB (tP P TZ tell0) 3 nmC (opsOf bc7) 3 (cuS 31 (exG (P 0 z)) (rdG (P 0 z))) m (sCl 23 s s2 p z l))
def sCx (p:PosR) (op:Int) (s s2:Str) (z:Rdr) (l:List ExprR):St Pl:=mkS 40 [(0,.ptr 50000 0),(4,.ptr 4 0)] [(50000,.box false (cRdr z)),(4,.box false (cEq op s s2 0 0 [] (.pl (pExprs l) .any) p)),(3,.box false (Mv.cP3 p))]
def sCy (p:PosR) (op:Int) (s s2:Str) (z:Rdr) (l:List ExprR):St Pl:=mkS 40 [(0,.ptr 50000 0),(4,.ptr 4 0)] [(50000,.box false (cRdr z)),(3,.box false (Mv.cP3 p)),(4,.box false (cEq op s s2 0 0 [] (.arr 10005011) p)),(5,.box false (cEq op s s2 0 0 [] (.arr 10005011) p)),(10005011,.arr false (pExprs l))]
section
variable (P:Nat→Rdr→Got) (TZ:Rdr→Got) (m:Nat) (s s2:Str) (p:PosR) (z:Rdr) (a b c:ExprR) (l:List ExprR)
theorem eBc0:evR (tH P TZ m) 3 bc0 [0,3,4] (sBc p z)=some (.normal,sC1 p z):=by kernel_rfl
theorem eBc1:evR (tH P TZ m) 3 bc1 [0,3,4,8] (sC1 p z)=some (.normal,sC8 p z):=by kernel_rfl
theorem eBc2:evRo (tH P TZ m) 3 bc2 [0,4] [50000,4,3] (sC8 p z)=ck_ (okG (listP (pairP P TZ) m [125] z)) (some (.ret,sCx p 23 [] [] (rdL (listP (pairP P TZ) m [125] z)) (exL (listP (pairP P TZ) m [125] z)))):=by kernel_rfl
theorem eBc3:evR (tH P TZ m) 3 bc3 [0,3,4,5] (sC8 p z)=some (.normal,sC3 p z):=by kernel_rfl
theorem fBc_ok:(pairsN (opsOf bc5) tabC).map (fun q=>stepO (tP P TZ tell0) 3 nmC (opsOf bc5) q.2 (fBc P TZ s s2 p z [a] q.1))=(pairsN (opsOf bc5) tabC).map (fun q=>ck_ (bif Nat.beq q.2 3 then okG (P 0 z) else true) (some (fBc P TZ s s2 p z [a] (q.1+2 ^ q.2)))):=by kernel_rfl
theorem eBc5:fBc P TZ s s2 p z l 0=sCl 10005011 s s2 p z l:=by kernel_rfl
theorem eBc5':maskS (keepOf [0,3,4,5]) (fBc P TZ s s2 p z [a] 2047)=sCl 23 s s2 p (rdG (P 0 z)) [a,nP (exG (P 0 z))]:=by kernel_rfl
theorem eBc6:evRo (tH P TZ m) 3 bc6 [0,3,4,5] nmC (sCl 23 s s2 p z l)=some (.normal,sCl 23 s s2 p (mustZ z [61,62]) l):=by kernel_rfl
theorem fBd_ok:(pairsN (opsOf bc7) tabC7).map (fun q=>stepO (tP P TZ tell0) 3 nmC (opsOf bc7) q.2 (fBd P TZ s s2 p z [a,b] q.1))=(pairsN (opsOf bc7) tabC7).map (fun q=>ck_ (bif Nat.beq q.2 3 then okG (P 0 z) else true) (some (fBd P TZ s s2 p z [a,b] (q.1+2 ^ q.2)))):=by kernel_rfl
theorem eBc7:fBd P TZ s s2 p z l 0=sCl 23 s s2 p z l:=by kernel_rfl
theorem eBc7':maskS (keepOf [0,3,4,5]) (fBd P TZ s s2 p z [a,b] 2047)=sCl 34 s s2 p (rdG (P 0 z)) [a,b,nP (exG (P 0 z))]:=by kernel_rfl
theorem eBc4:evRo (tH P TZ m) 3 bc4 [0,3,4,5] nmC (sC3 p z)=ck_ (okG (P 0 (kwZ (hdZ z) [105,110]))) (some (.normal,sCl 10005011 (hdS z) (hdT z) p (mustZ (rdG (P 0 (kwZ (hdZ z) [105,110]))) [58]) [nP (exG (P 0 (kwZ (hdZ z) [105,110])))])):=by kernel_rfl
theorem eBc8:evRo (tH P TZ m) 3 bc8 [0,3,4,5] nmC (sCl 34 s s2 p z [a,b,c])=ck_ (okG (flR P [125] [a,b,c] z)) (some (.normal,sCl 10005011 s s2 p (rdL (flR P [125] [a,b,c] z)) (exL (flR P [125] [a,b,c] z)))):=by kernel_rfl
theorem eBc9:evRo (tH P TZ m) 3 bc9 [0,4] nmC (sCl 10005011 s s2 p z l)=some (.ret,sCy p 25 s s2 z l):=by kernel_rfl
theorem finBc2 (z0:Rdr) (op:Int):finM X0 Tryz.f56 (decH (encR z0)) (sCx p op s s2 z l)=env z (cEq op s s2 0 0 [] (.pl (pExprs l) .any) p):=by kernel_rfl
theorem finBc9 (z0:Rdr) (op:Int):finM X0 Tryz.f56 (decH (encR z0)) (sCy p op s s2 z l)=env z (cEq op s s2 0 0 [] (.pl (pExprs l) .any) p):=by kernel_rfl
theorem cEv:evK X0 (sC8 p z).tm [] (.tmp 8)=.bool !(aheadB z):=by kernel_rfl
end
theorem brace_sound {P:Nat→Rdr→Got} {TZ:Rdr→Got} (hP:Deep P) (hT:TxOk TZ) {m:Nat} (hm:m≤1000000000) {p:PosR} {z z':Rdr} {e:ExprR} (h:braceP P TZ m z=some (e,z')):SndR 56 z [.agg (Mv.cP3 p)] (.agg (cExN e)) z':=by
 have hR:=tH_ok hP hT hm
 have fin:∀{S:St Pl} {op:Int} {s s2:Str} {l:List ExprR} {z1:Rdr},GoesX bcB (sBc p z) .ret S→finM X0 Tryz.f56 (decH (encR z)) S=env z1 (cEq op s s2 0 0 [] (.pl (pExprs l) .any) p)→some (ndE op s s2 l,z1)=some (e,z')→SndR 56 z [.agg (Mv.cP3 p)] (.agg (cExN e)) z':=by
  intro S op s s2 l z1 hgo hfin hq
  simp only [Option.some.injEq,Prod.mk.injEq] at hq
  obtain ⟨rfl,rfl⟩:=hq
  obtain ⟨h1,h2⟩:=fok 56 Tryz.f56 (by kernel_rfl)
  obtain ⟨os,d,he,hs⟩:=fnM_goes (X:=X0) xok (fn:=Tryz.f56) (cd:=bcB) (ds:=[.ptr 50000 0,.agg (Mv.cP3 p)]) (H:=decH (encR z)) h1 h2 (by kernel_rfl) hgo (fun _ h=>by cases h) hfin
  simp only [D.env.injEq] at he
  obtain ⟨rfl,rfl⟩:=he
  exact SoundM.post (asN_rdle rfl) hs
 have h0:=goesR hR (eBc0 P TZ m p z)
 have h1:=goesR hR (eBc1 P TZ m p z)
 unfold braceP at h
 cases hw:aheadB z with
 | false =>
  rw [hw] at h
  simp only [Bool.not_false,cond_true] at h
  cases hx:listP (pairP P TZ) m [125] z with
  | none=>rw [hx] at h;cases h
  | some q =>
  rw [hx] at h
  simp only [thenG] at h
  refine fin (S:=sCx p 23 [] [] q.2 q.1) ?_ (finBc2 _ _ p _ _ z 23) h
  rw [bcB_eq]
  refine goes_seq h0 (goes_seqX (goes_seq h1 (goes_cond (t:=true) ((cEv p z).trans (by rw [hw];rfl)) ?_)) (by simp))
  rw [if_pos rfl]
  exact goesRo hR ((eBc2 P TZ m p z).trans (by rw [hx];rfl))
 | true =>
  rw [hw] at h
  simp only [Bool.not_true,cond_false] at h
  rw [headP_eq] at h
  cases hx:P 0 (kwZ (hdZ z) [105,110]) with
  | none=>rw [hx] at h;cases h
  | some q =>
  rw [hx] at h
  simp only [thenG] at h
  cases hy:P 0 (mustZ q.2 [58]) with
  | none=>rw [hy] at h;cases h
  | some r =>
  rw [hy] at h
  simp only at h
  cases hu:P 0 (mustZ r.2 [61,62]) with
  | none=>rw [hu] at h;cases h
  | some u =>
  rw [hu] at h
  simp only at h
  rw [filtP_eq] at h
  cases hf:flR P [125] (([nP q.1]++[nP r.1])++[nP u.1]) u.2 with
  | none=>rw [hf] at h;cases h
  | some v =>
  rw [hf] at h
  simp only [thenG] at h
  have hf:flR P [125] [nP q.1,nP r.1,nP u.1] u.2=some v:=hf
  refine fin (S:=sCy p 25 (hdS z) (hdT z) v.2 v.1) ?_ (finBc9 _ _ p _ _ z 25) h
  rw [bcB_eq]
  have h4:GoesX bc4 (sC3 p z) .normal (sCl 10005011 (hdS z) (hdT z) p (mustZ q.2 [58]) [nP q.1]):=goesRo hR ((eBc4 P TZ m p z).trans (by rw [hx];rfl))
  have h5:GoesX bc5 (sCl 10005011 (hdS z) (hdT z) p (mustZ q.2 [58]) [nP q.1]) .normal (sCl 23 (hdS z) (hdT z) p r.2 [nP q.1,nP r.1]):=by
   rw [bc5_eq,←eBc5 P TZ]
   have:=(draw_goes (tP_ok hP hT (tell0_ok X0)) (c:=okG (P 0 (mustZ q.2 [58]))) (id:=5) (by rw [hy];rfl) tabC_ok (by kernel_rfl) (fBc_ok P TZ (hdS z) (hdT z) p (mustZ q.2 [58]) (nP q.1))).post (keepOf [0,3,4,5])
   rw [eBc5',hy] at this
   exact this
  have h7:GoesX bc7 (sCl 23 (hdS z) (hdT z) p (mustZ r.2 [61,62]) [nP q.1,nP r.1]) .normal (sCl 34 (hdS z) (hdT z) p u.2 [nP q.1,nP r.1,nP u.1]):=by
   rw [bc7_eq,←eBc7 P TZ]
   have:=(draw_goes (tP_ok hP hT (tell0_ok X0)) (c:=okG (P 0 (mustZ r.2 [61,62]))) (id:=7) (by rw [hu];rfl) tabC7_ok (by kernel_rfl) (fBd_ok P TZ (hdS z) (hdT z) p (mustZ r.2 [61,62]) (nP q.1) (nP r.1))).post (keepOf [0,3,4,5])
   rw [eBc7',hu] at this
   exact this
  have h8:GoesX bc8 (sCl 34 (hdS z) (hdT z) p u.2 [nP q.1,nP r.1,nP u.1]) .normal (sCl 10005011 (hdS z) (hdT z) p v.2 v.1):=goesRo hR ((eBc8 P TZ m _ _ p u.2 _ _ _).trans (by rw [hf];rfl))
  refine goes_seq h0 (goes_seq (goes_seq h1 (goes_cond (t:=false) ((cEv p z).trans (by rw [hw];rfl)) (S':=sC8 p z) (e:=.normal) (fun g a w hS hK Q hQ=>by
   rw [if_neg (by simp)]
   exact wp_skip (hQ g.rho a w hS hK)))) (goes_seq (goesR hR (eBc3 P TZ m p z)) (goes_seq h4 (goes_seq h5 (goes_seq (goesRo hR (eBc6 P TZ m _ _ p _ _)) (goes_seq h7 (goes_seq h8 (goesRo hR (eBc9 P TZ m _ _ p _ _)))))))))
end Go.Proofs.YtcgbgcconigdbaaGreatDoor.Rd
