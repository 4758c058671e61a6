/-
 WHAT THE PROGRAM's READER READS: a for's condition, and its end.
-/
import Derived.Test.YtcgbgcconigdbaaGreatDoorDraw
namespace Go.Proofs.YtcgbgcconigdbaaGreatDoor.Rd
open Go.Eng
set_option maxRecDepth 100000
noncomputable def codeOf (f:FuncId):Code:=match F0 f with
 | some fn=>fn.body.getD .skip
 | none=>.skip
open Mv (seqL seqR opsOf idOf)
noncomputable def hdB:Code:=codeOf 74
noncomputable def hd0:Code:=seqL hdB
noncomputable def hd1:Code:=seqL (seqR hdB)
noncomputable def hd2:Code:=seqL (seqR (seqR hdB))
noncomputable def hd5:Code:=seqL (seqR (seqR (seqR hdB)))
noncomputable def hd6:Code:=seqL (seqR (seqR (seqR (seqR hdB))))
noncomputable def hd7:Code:=seqR (seqR (seqR (seqR (seqR hdB))))
theorem hdB_eq:hdB=.seq hd0 (.seq hd1 (.seq hd2 (.seq hd5 (.seq hd6 hd7)))):=by kernel_rfl
theorem hd6_eq:hd6=.region 6 (opsOf hd6) true:=by kernel_rfl
noncomputable def tabH:List Nat:=makeN (opsOf hd6)
theorem tabH_ok:tabN (opsOf hd6) tabH 16383=true:=by kernel_rfl
def sHd (op:Int) (s s2:Str) (p:PosR) (z:Rdr):St Pl:=mkS 41 [(0,.ptr 50000 0),(1,.ptr 50001 0)] [(50000,.box false (cRdr z)),(50001,.box false (cEq op s s2 0 0 [] .nilS p))]
def cuS (t:Nat) (x:ExprR) (z:Rdr) (S:St Pl):St Pl:=⟨setT S.tm t (.agg (cExN x)),upd S.hs 50000 (.box false (cRdr z))⟩
noncomputable def fHd (P:Nat→Rdr→Got) (TZ:Rdr→Got) (op:Int) (s s2:Str) (p:PosR) (z:Rdr) (m:Nat):St Pl :=
 ordS [50000,50001,35] (runB (tP P TZ tell0) 3 [50000,50001,35] (opsOf hd6) 5 (cuS 32 (exG (P 0 z)) (rdG (P 0 z))) m (sHd op s s2 p z))
theorem fHd_ok (P:Nat→Rdr→Got) (TZ:Rdr→Got) (op:Int) (s s2:Str) (p:PosR) (z:Rdr) :
  (pairsN (opsOf hd6) tabH).map (fun q=>stepO (tP P TZ tell0) 3 [50000,50001,35] (opsOf hd6) q.2 (fHd P TZ op s s2 p z q.1))=(pairsN (opsOf hd6) tabH).map (fun q=>ck_ (bif Nat.beq q.2 5 then okG (P 0 z) else true) (some (fHd P TZ op s s2 p z (q.1+2 ^ q.2)))):=by kernel_rfl
noncomputable abbrev evR (R:Eng.Told Pl) (n:Nat) (code:Code) (keep:List Nat) (S:St Pl):Option (Ex×St Pl):=evC R noTL noL n code keep S
theorem goesR {R:Eng.Told Pl} (hR:TOk R) {n:Nat} {code:Code} {keep:List Nat} {S S':St Pl} {e:Ex} (h:evR R n code keep S=some (e,S')):GoesX code S e S' :=
 goes_of hR (noTL_ok _ _) (fun b _=>noL_ok _ b) h
section
variable (P:Nat→Rdr→Got) (TZ:Rdr→Got) (op:Int) (s s2:Str) (p:PosR) (z:Rdr)
theorem eHd0:evR (tP P TZ tell0) 3 hd0 [0,1] (sHd op s s2 p z)=some (.normal,sHd op s s2 p (kwZ z [102,111,114])):=by kernel_rfl
theorem eHd1:evR (tP P TZ tell0) 3 hd1 [0,1] (sHd op s s2 p z)=some (.normal,sHd op (nmS z) s2 p (nmZ z)):=by kernel_rfl
theorem eHd2:evR (tP P TZ tell0) 3 hd2 [0,1] (sHd op s s2 p z)=bif !(nxZ z [44]) then some (.normal,sHd op s s2 p z) else some (.normal,sHd op (nmS (bump z)) s p (nmZ (bump z))):=by kernel_rfl
theorem eHd5:evR (tP P TZ tell0) 3 hd5 [0,1] (sHd op s s2 p z)=some (.normal,sHd op s s2 p (kwZ z [105,110])):=by kernel_rfl
theorem eHd6:fHd P TZ op s s2 p z 0=sHd op s s2 p z:=by kernel_rfl
def sHe (op:Int) (s s2:Str) (p:PosR) (z:Rdr) (l:List ExprR):St Pl:=mkS 41 [(0,.ptr 50000 0),(1,.ptr 50001 0)] [(50000,.box false (cRdr z)),(50001,.box false (cEq op s s2 0 0 [] (.arr 35) p)),(35,.arr false (pExprs l))]
theorem eHd6':maskS (keepOf [0,1]) (fHd P TZ op s s2 p z 16383)=sHe op s s2 p (rdG (P 0 z)) [nP (exG (P 0 z))]:=by kernel_rfl
theorem eHd7 (l:List ExprR):evR (tP P TZ tell0) 3 hd7 [0,1] (sHe op s s2 p z l)=some (.normal,sHe op s s2 p (mustZ z [58]) l):=by kernel_rfl
def osHd (op:Int) (s s2:Str) (p:PosR) (z:Rdr) (l:D Pl):List (D Pl):=[.obB 50000 (cRdr z),.obB 50001 (cEq op s s2 0 0 [] l p)]
def osHe (op:Int) (s s2:Str) (p:PosR) (z:Rdr) (l:List ExprR):List (D Pl):=[.obB 50000 (cRdr z),.obB 50001 (cEq op s s2 0 0 [] (.arr 101011) p),.obA 101011 (pExprs l)]
theorem finHd (l:List ExprR) (z0:Rdr):finM X0 Tryz.f74 (decH (osHd op [] [] p z0 .nilS)) (sHe op s s2 p z l)=some (.env (osHe op s s2 p z l) (.tup [])):=by kernel_rfl
end
def hdZ (z:Rdr):Rdr:=bif nxZ (nmZ (kwZ z [102,111,114])) [44] then nmZ (bump (nmZ (kwZ z [102,111,114]))) else nmZ (kwZ z [102,111,114])
def hdS (z:Rdr):Str:=bif nxZ (nmZ (kwZ z [102,111,114])) [44] then nmS (bump (nmZ (kwZ z [102,111,114]))) else nmS (kwZ z [102,111,114])
def hdT (z:Rdr):Str:=bif nxZ (nmZ (kwZ z [102,111,114])) [44] then nmS (kwZ z [102,111,114]) else []
theorem headP_eq (P:Nat→Rdr→Got) (z:Rdr) (K:Str→Str→List ExprR→Rdr→Got):headP P z K=thenG (P 0 (kwZ (hdZ z) [105,110])) fun x z4=>K (hdS z) (hdT z) [nP x] (mustZ z4 [58]):=by
 unfold headP hdZ hdS hdT
 simp only
 cases nxZ (nmZ (kwZ z [102,111,114])) [44]<;>rfl
theorem head_sound {P:Nat→Rdr→Got} {TZ:Rdr→Got} (hP:Deep P) (hT:TxOk TZ) {op:Int} {p:PosR} {z z':Rdr} {x:ExprR} (h:P 0 (kwZ (hdZ z) [105,110])=some (x,z')) :
  SndM 74 (decH (osHd op [] [] p z .nilS)) [.ptr 50000 0,.ptr 50001 0] (.tup []) (decH (osHe op (hdS z) (hdT z) p (mustZ z' [58]) [nP x])):=by
 have hR:=tP_ok hP hT (tell0_ok X0)
 have hgo:GoesX hdB (sHd op [] [] p z) .normal (sHe op (hdS z) (hdT z) p (mustZ z' [58]) [nP x]):=by
  rw [hdB_eq]
  have h2:GoesX hd2 (sHd op (nmS (kwZ z [102,111,114])) [] p (nmZ (kwZ z [102,111,114]))) .normal (sHd op (hdS z) (hdT z) p (hdZ z)):=by
   refine goesR hR ((eHd2 P TZ op _ _ p _).trans ?_)
   unfold hdS hdT hdZ
   cases nxZ (nmZ (kwZ z [102,111,114])) [44]<;>rfl
  have h6:GoesX hd6 (sHd op (hdS z) (hdT z) p (kwZ (hdZ z) [105,110])) .normal (sHe op (hdS z) (hdT z) p z' [nP x]):=by
   rw [hd6_eq,←eHd6 P TZ]
   have:=(draw_goes hR (c:=okG (P 0 (kwZ (hdZ z) [105,110]))) (id:=6) (by rw [h];rfl) tabH_ok (by kernel_rfl) (fHd_ok P TZ op (hdS z) (hdT z) p (kwZ (hdZ z) [105,110]))).post (keepOf [0,1])
   rw [eHd6',h] at this
   exact this
  exact goes_seq (goesR hR (eHd0 P TZ op [] [] p z)) (goes_seq (goesR hR (eHd1 P TZ op [] [] p _)) (goes_seq h2 (goes_seq (goesR hR (eHd5 P TZ op _ _ p _)) (goes_seq h6 (goesR hR (eHd7 P TZ op _ _ p _ _))))))
 obtain ⟨h1,h2⟩:=fok 74 Tryz.f74 (by kernel_rfl)
 obtain ⟨os,d,he,hs⟩:=fnM_goes (X:=X0) xok (fn:=Tryz.f74) (cd:=hdB) (ds:=[.ptr 50000 0,.ptr 50001 0]) (H:=decH (osHd op [] [] p z .nilS)) h1 h2 (by kernel_rfl) hgo (fun _ h=>by cases h) (finHd op _ _ p _ _ z)
 simp only [D.env.injEq] at he
 obtain ⟨rfl,rfl⟩:=he
 exact hs
end Go.Proofs.YtcgbgcconigdbaaGreatDoor.Rd
namespace Go.Proofs.YtcgbgcconigdbaaGreatDoor.Rd
open Go.Eng
open Mv (seqL seqR opsOf idOf)
set_option maxRecDepth 100000
noncomputable def flB:Code:=codeOf 75
noncomputable def fl0:Code:=seqL (seqL flB)
noncomputable def fl1:Code:=seqL (seqL (seqR (seqL flB)))
noncomputable def fl2:Code:=seqR (seqL (seqR (seqL flB)))
noncomputable def fl3:Code:=seqR flB
theorem flB_eq:flB=.seq (.seq fl0 (.cond (.tmp 7) (.seq fl1 fl2) .skip)) fl3:=by kernel_rfl
theorem fl2_eq:fl2=.region 2 (opsOf fl2) true:=by kernel_rfl
noncomputable def tabF:List Nat:=makeN (opsOf fl2)
theorem tabF_ok:tabN (opsOf fl2) tabF 16383=true:=by kernel_rfl
def sFl (n:Nat) (op:Int) (s s2:Str) (p:PosR) (z:Rdr) (l:List ExprR) (e:Str):St Pl:=mkS 30 [(0,.ptr 50000 0),(1,.ptr 50001 0),(2,.str e)] [(50000,.box false (cRdr z)),(50001,.box false (cEq op s s2 0 0 [] (.arr n) p)),(n,.arr false (pExprs l))]
def sFl7 (op:Int) (s s2:Str) (p:PosR) (z:Rdr) (l:List ExprR) (e:Str):St Pl:=mkS 30 [(0,.ptr 50000 0),(1,.ptr 50001 0),(2,.str e),(7,.bool (wdB z [105,102]))] [(50000,.box false (cRdr z)),(50001,.box false (cEq op s s2 0 0 [] (.arr 101011) p)),(101011,.arr false (pExprs l))]
noncomputable def fFl (P:Nat→Rdr→Got) (TZ:Rdr→Got) (op:Int) (s s2:Str) (p:PosR) (z:Rdr) (l:List ExprR) (e:Str) (m:Nat):St Pl :=
 ordS [50000,50001,101011,23] (runB (tP P TZ tell0) 3 [50000,50001,101011,23] (opsOf fl2) 5 (cuS 20 (exG (P 0 z)) (rdG (P 0 z))) m (sFl 101011 op s s2 p z l e))
section
variable (P:Nat→Rdr→Got) (TZ:Rdr→Got) (op:Int) (s s2:Str) (p:PosR) (z:Rdr) (e:Str) (a b c:ExprR) (l:List ExprR)
theorem fFl_ok2:(pairsN (opsOf fl2) tabF).map (fun q=>stepO (tP P TZ tell0) 3 [50000,50001,101011,23] (opsOf fl2) q.2 (fFl P TZ op s s2 p z [a,b] e q.1))=(pairsN (opsOf fl2) tabF).map (fun q=>ck_ (bif Nat.beq q.2 5 then okG (P 0 z) else true) (some (fFl P TZ op s s2 p z [a,b] e (q.1+2 ^ q.2)))):=by kernel_rfl
theorem fFl_ok3:(pairsN (opsOf fl2) tabF).map (fun q=>stepO (tP P TZ tell0) 3 [50000,50001,101011,23] (opsOf fl2) q.2 (fFl P TZ op s s2 p z [a,b,c] e q.1))=(pairsN (opsOf fl2) tabF).map (fun q=>ck_ (bif Nat.beq q.2 5 then okG (P 0 z) else true) (some (fFl P TZ op s s2 p z [a,b,c] e (q.1+2 ^ q.2)))):=by kernel_rfl
theorem eFl0:evR (tP P TZ tell0) 3 fl0 [0,1,2,7] (sFl 101011 op s s2 p z l e)=some (.normal,sFl7 op s s2 p z l e):=by kernel_rfl
theorem eFl1:evR (tP P TZ tell0) 3 fl1 [0,1,2] (sFl7 op s s2 p z l e)=some (.normal,sFl 101011 op s s2 p (bump z) l e):=by kernel_rfl
theorem eFl2:fFl P TZ op s s2 p z l e 0=sFl 101011 op s s2 p z l e:=by kernel_rfl
theorem eFl2':maskS (keepOf [0,1,2]) (fFl P TZ op s s2 p z [a,b] e 16383)=sFl 23 op s s2 p (rdG (P 0 z)) [a,b,nP (exG (P 0 z))] e:=by kernel_rfl
theorem eFl2'':maskS (keepOf [0,1,2]) (fFl P TZ op s s2 p z [a,b,c] e 16383)=sFl 23 op s s2 p (rdG (P 0 z)) [a,b,c,nP (exG (P 0 z))] e:=by kernel_rfl
theorem eFl3:evR (tP P TZ tell0) 3 fl3 [0,1,2] (sFl 23 op s s2 p z l e)=some (.normal,sFl 23 op s s2 p (mustZ z e) l e):=by kernel_rfl
theorem eFl3':evR (tP P TZ tell0) 3 fl3 [0,1,2] (sFl7 op s s2 p z l e)=some (.normal,sFl 101011 op s s2 p (mustZ z e) l e):=by kernel_rfl
theorem finFl (z0:Rdr) (l0:List ExprR):finM X0 Tryz.f75 (decH (osHe op s s2 p z0 l0)) (sFl 23 op s s2 p z l e)=some (.env (osHe op s s2 p z l) (.tup [])):=by kernel_rfl
theorem finFl' (z0:Rdr) (l0:List ExprR):finM X0 Tryz.f75 (decH (osHe op s s2 p z0 l0)) (sFl 101011 op s s2 p z l e)=some (.env (osHe op s s2 p z l) (.tup [])):=by kernel_rfl
end
def flR (P:Nat→Rdr→Got) (e:Str) (l:List ExprR) (z:Rdr):GotL:=bif wdB z [105,102] then thenG (P 0 (bump z)) fun c z'=>some (l++[nP c],mustZ z' e) else some (l,mustZ z e)
theorem filtP_eq (P:Nat→Rdr→Got) (e s s2:Str) (op:Int) (l:List ExprR) (z:Rdr):filtP P e s s2 op l z=thenG (flR P e l z) fun l z'=>some (ndE op s s2 l,z'):=by
 unfold filtP flR
 cases wdB z [105,102] with
 | false=>rfl
 | true =>
  simp only [cond_true]
  cases P 0 (bump z)<;>rfl
theorem filt_sound {P:Nat→Rdr→Got} {TZ:Rdr→Got} (hP:Deep P) (hT:TxOk TZ) {op:Int} {s s2 e:Str} {p:PosR} {z z':Rdr} {l l':List ExprR} (hl:(∃a b,l=[a,b])∨∃a b c,l=[a,b,c]) (h:flR P e l z=some (l',z')) :
    SndM 75 (decH (osHe op s s2 p z l)) [.ptr 50000 0,.ptr 50001 0,.str e] (.tup []) (decH (osHe op s s2 p z' l')):=by
  have hR:=tP_ok hP hT (tell0_ok X0)
  have fin:∀n,(n=23∨n=101011)→GoesX flB (sFl 101011 op s s2 p z l e) .normal (sFl n op s s2 p z' l' e)→SndM 75 (decH (osHe op s s2 p z l)) [.ptr 50000 0,.ptr 50001 0,.str e] (.tup []) (decH (osHe op s s2 p z' l')):=by
    intro n hn hgo
    obtain ⟨h1,h2⟩:=fok 75 Tryz.f75 (by kernel_rfl)
    obtain ⟨os,d,he,hs⟩:=fnM_goes (X:=X0) xok (fn:=Tryz.f75) (cd:=flB) (ds:=[.ptr 50000 0,.ptr 50001 0,.str e]) (H:=decH (osHe op s s2 p z l)) h1 h2 (by kernel_rfl) hgo (fun _ h=>by cases h) (d:=.env (osHe op s s2 p z' l') (.tup []))
      (by rcases hn with rfl | rfl
          · exact finFl op s s2 p z' e l' z l
          · exact finFl' op s s2 p z' e l' z l)
    simp only [D.env.injEq] at he
    obtain ⟨rfl,rfl⟩:=he
    exact hs
  have hev:evK X0 (sFl7 op s s2 p z l e).tm [] (.tmp 7)=.bool (wdB z [105,102]):=by kernel_rfl
  have h0:=goesR hR (eFl0 P TZ op s s2 p z e l)
  unfold flR at h
  cases hw:wdB z [105,102] with
  | false =>
    rw [hw] at h
    simp only [cond_false,Option.some.injEq,Prod.mk.injEq] at h
    obtain ⟨rfl,rfl⟩:=h
    refine fin 101011 (.inr rfl) ?_
    rw [flB_eq]
    exact goes_seq (goes_seq h0 (goes_cond (hev.trans (by rw [hw])) (S':=sFl7 op s s2 p z l e) (e:=.normal) (fun g a w hS hK Q hQ=>by
      rw [if_neg (by simp)]
      exact wp_skip (hQ g.rho a w hS hK)))) (goesR hR (eFl3' P TZ op s s2 p z e l))
  | true =>
    rw [hw] at h
    simp only [cond_true] at h
    cases hx:P 0 (bump z) with
    | none=>rw [hx] at h;cases h
    | some q =>
    rw [hx] at h
    simp only [thenG,Option.some.injEq,Prod.mk.injEq] at h
    obtain ⟨rfl,rfl⟩:=h
    refine fin 23 (.inl rfl) ?_
    rw [flB_eq]
    have h2:GoesX fl2 (sFl 101011 op s s2 p (bump z) l e) .normal (sFl 23 op s s2 p q.2 (l++[nP q.1]) e):=by
      rw [fl2_eq,←eFl2 P TZ]
      rcases hl with ⟨a,b,rfl⟩ | ⟨a,b,c,rfl⟩
      · have:=(draw_goes hR (c:=okG (P 0 (bump z))) (id:=2) (by rw [hx];rfl) tabF_ok (by kernel_rfl) (fFl_ok2 P TZ op s s2 p (bump z) e a b)).post (keepOf [0,1,2])
        rw [eFl2',hx] at this
        exact this
      · have:=(draw_goes hR (c:=okG (P 0 (bump z))) (id:=2) (by rw [hx];rfl) tabF_ok (by kernel_rfl) (fFl_ok3 P TZ op s s2 p (bump z) e a b c)).post (keepOf [0,1,2])
        rw [eFl2'',hx] at this
        exact this
    refine goes_seq (goes_seq h0 (goes_cond (hev.trans (by rw [hw])) ?_)) (goesR hR (eFl3 P TZ op s s2 p q.2 e (l++[nP q.1])))
    rw [if_pos rfl]
    exact goes_seq (goesR hR (eFl1 P TZ op s s2 p z e l)) h2
end Go.Proofs.YtcgbgcconigdbaaGreatDoor.Rd
