/-
 A TREE THAT A CALL HAS MADE: nothing else reads in its rows; they may be turned by another call, and then be as all else.
-/
import Derived.Test.YtcgbgcconigdbaaGreatDoorReadQ
import Derived.Test.YtcgbgcconigdbaaGreatDoorMoved3
namespace Go.Proofs.YtcgbgcconigdbaaGreatDoor.Rd
open Go.Eng
set_option maxRecDepth 100000
theorem noLs {g:FuncId} {fn:Func} (hf:F0 g=some fn) (h:(loopsAt g).length=0) {L:LK Pl}:∀code,fn.body=some code→∀b∈loopsOf code,LoopOk X0 L b:=loops_of hf (loops_0 h)
theorem post_sound {P:Nat→Rdr→Got} {TZ:Rdr→Got} (hP:Deep P) (hT:TxOk TZ) {m:Nat} (hm:m≤1000000000) {z z':Rdr} {e:ExprR} (h:postP P TZ m z=some (e,z')):SndR 39 z [] (.agg (cExN e)) z':=by
 have hL:=loops_of (f:=39) (fn:=Tryz.f39) (by kernel_rfl) (loops_1 idsPo.1 (L:=atL 2 (LSPo P m) noL) (atL_ok (fun _=>LSPo_ok hP hT m) fun h=>absurd idsPo.2 h))
 refine snd_m (n:=4) (tQ_ok hP hT hm) (noTL_ok _ _) (f:=39) (fn:=Tryz.f39) (by kernel_rfl) hL ((ePost P TZ m z).trans ?_)
 unfold postP at h
 unfold postK
 rw [ckG_eq]
 cases hx:firstP P TZ m z with
 | none=>rw [hx] at h;cases h
 | some q =>
  rw [hx] at h
  simp only [thenG] at h ⊢
  rw [h,show goodB True=true from goodB_t trivial]
  show (bif z'.c==0 then env z' (cExN e) else env z' (cExN e))=_
  cases z'.c==0<;>rfl
def unK (P:Nat→Rdr→Got) (op:Int) (z:Rdr):Option (D Pl):=ckG (P 6 (bump z)) fun x z'=>env z' (cEq op [] [] 0 0 [] (.pl (pExprs [nP x]) .full) (tokZ z).p)
theorem eUn (P:Nat→Rdr→Got) (TZ:Rdr→Got) (z:Rdr):evM (tP P TZ tell0) noTL noL 4 Tryz.f30 (decH (encR z)) [.ptr 50000 0]=bif nxZ z [33] then unK P 6 z else bif nxZ z [45] then unK P 7 z else got (P 7 z):=by kernel_rfl
theorem eExpr (P:Nat→Rdr→Got) (TZ:Rdr→Got) (z:Rdr):evM (tP P TZ tell0) noTL noL 4 Tryz.f11 (decH (encR z)) [.ptr 50000 0] =
  ckG (P 1 z) fun e z1=>bif !(nxZ z1 [63]) then env z1 (cExN e) else ckG (P 0 (bump z1)) fun a z2=>ckG (P 0 (mustZ z2 [58])) fun b z4=>env z4 (cEq 21 [] [] 0 0 [] (.pl (pExprs [nP e,nP a,nP b]) .full) (tokZ z1).p):=by kernel_rfl
def tU (P:Nat→Rdr→Got):Eng.Told Pl:=tK (tell 29 pLv (tellM 30 (pR (pG P 6)) tell0))
theorem eB5 (P:Nat→Rdr→Got) (z:Rdr):evM (tU P) noTL noL 4 Tryz.f19 (decH (encR z)) [.ptr 50000 0,dI 5]=got (P 6 z):=by kernel_rfl
section
variable {P:Nat→Rdr→Got} {TZ:Rdr→Got} (hP:Deep P) (hT:TxOk TZ)
include hP hT
theorem un_sound {z z':Rdr} {e:ExprR} (h:unaryP P z=some (e,z')):SndR 30 z [] (.agg (cExN e)) z':=by
 have hR:=tP_ok hP hT (tell0_ok X0)
 have un:∀op,(thenG (P 6 (bump z)) fun x z'=>some (ndE op [] [] [nP x],z'))=some (e,z')→(bif nxZ z [33] then unK P 6 z else bif nxZ z [45] then unK P 7 z else got (P 7 z))=unK P op z→SndR 30 z [] (.agg (cExN e)) z':=by
  intro op h1 h2
  cases hx:P 6 (bump z) with
  | none=>rw [hx] at h1;cases h1
  | some q =>
   rw [hx] at h1
   simp only [thenG,Option.some.injEq,Prod.mk.injEq] at h1
   obtain ⟨rfl,rfl⟩:=h1
   have h4:unK P op z=env q.2 (cEq op [] [] 0 0 [] (.pl (pExprs [nP q.1]) .full) (tokZ z).p):=by
    unfold unK
    rw [ckG_eq,hx]
    rfl
   exact sndE_of hR (n:=4) (fn:=Tryz.f30) (by kernel_rfl) (noLs (g:=30) (by kernel_rfl) (by kernel_rfl)) ((eUn P TZ z).trans (h2.trans h4)) rfl
 unfold unaryP at h
 cases h1:nxZ z [33] with
 | true=>rw [h1] at h;exact un 6 h (by rw [h1];rfl)
 | false =>
  rw [h1] at h
  cases h2:nxZ z [45] with
  | true=>rw [h2] at h;exact un 7 h (by rw [h1,h2];rfl)
  | false =>
   rw [h2] at h
   have h:P 7 z=some (e,z'):=h
   exact snd_m (n:=4) hR (noTL_ok _ _) (f:=30) (fn:=Tryz.f30) (by kernel_rfl) (noLs (g:=30) (by kernel_rfl) (by kernel_rfl)) ((eUn P TZ z).trans (by rw [h1,h2];unfold got;rw [h];rfl))
theorem ex_sound {z z':Rdr} {e:ExprR} (h:exprP P z=some (e,z')):SndR 11 z [] (.agg (cExN e)) z':=by
 have hR:=tP_ok hP hT (tell0_ok X0)
 have hE:=eExpr P TZ z
 unfold exprP at h
 simp only [ckG_eq] at hE
 cases hx:P 1 z with
 | none=>rw [hx] at h;cases h
 | some q =>
 rw [hx] at h hE
 simp only [thenG] at h hE
 cases h1:nxZ q.2 [63] with
 | false =>
  rw [h1] at h hE
  simp only [cond_false,Option.some.injEq,Prod.mk.injEq] at h
  obtain ⟨rfl,rfl⟩:=h
  exact snd_m (n:=4) hR (noTL_ok _ _) (f:=11) (fn:=Tryz.f11) (by kernel_rfl) (noLs (g:=11) (by kernel_rfl) (by kernel_rfl)) hE
 | true =>
  rw [h1] at h hE
  simp only [cond_true,Bool.not_true,cond_false] at h hE
  cases ha:P 0 (bump q.2) with
  | none=>rw [ha] at h;cases h
  | some a =>
  rw [ha] at h hE
  simp only at h hE
  cases hb:P 0 (mustZ a.2 [58]) with
  | none=>rw [hb] at h;cases h
  | some b =>
  rw [hb] at h hE
  simp only [Option.some.injEq,Prod.mk.injEq] at h hE
  obtain ⟨rfl,rfl⟩:=h
  exact sndE_of hR (n:=4) (fn:=Tryz.f11) (by kernel_rfl) (noLs (g:=11) (by kernel_rfl) (by kernel_rfl)) hE rfl
end
theorem b5_sound {P:Nat→Rdr→Got} (hu:∀z e z',P 6 z=some (e,z')→SndR 30 z [] (.agg (cExN e)) z') {z z':Rdr} {e:ExprR} (h:P 6 z=some (e,z')):SndR 19 z [dI 5] (.agg (cExN e)) z' :=
 snd_m (n:=4) (tK_ok (tell_ok pLv_ok (tellM_ok (pR_ok (pG_ok hu)) (tell0_ok X0)))) (noTL_ok _ _) (f:=19) (fn:=Tryz.f19) (by kernel_rfl) (fun _ _ b _=>noL_ok _ b) ((eB5 P z).trans (by unfold got;rw [h];rfl))
def sBi (lvl:Nat) (e:ExprR) (z:Rdr):St Pl:=mkS 62 [(0,.ptr 50000 0),(1,dI lvl),(4,.ptr 4 0),(5,.ptr 5 0),(6,.ptr 6 0)] [(6,.box false (cExN e)),(50000,.box false (cRdr z)),(5,.box false cLv),(4,.box false zC0)]
def FBi:Fix Pl:={ keep:=[0,1,4,5,6],lose:=[7],wid:=[(6,6,pVals []),(6,7,pStrs []),(6,11,pExprs [])],ord:=[6,50000,5,4] }
def bodyBi (P:Nat→Rdr→Got) (lvl:Nat) (e:ExprR) (z:Rdr):Option (Ex×St Pl) :=
 bif z.c==0 then (bif (bif !((tokZ z).kind==4) then true else !(hasM (k:=.str) (v:=.int) (lvOps lvl) (tokZ z).s)) then some (.exit 0,sBi lvl e z)
  else ck_ (okG (P (lvl+2) (bump z))) (bif Nat.beq lvl 2 then some (.exit 0,sBi lvl (moreE lvl e (exG (P (lvl+2) (bump z))) z) (rdG (P (lvl+2) (bump z))))
   else some (.normal,sBi lvl (moreE lvl e (exG (P (lvl+2) (bump z))) z) (rdG (P (lvl+2) (bump z))))))
 else some (.exit 0,sBi lvl e z)
theorem bBi (P:Nat→Rdr→Got) (TZ:Rdr→Got) (e:ExprR) (z:Rdr):∀lvl,lvl < 5→evN (tP P TZ tell0) 4 (loopAt 19 0) FBi 6 (sBi lvl e z)=bodyBi P lvl e z
 | 0,_=>by kernel_rfl
 | 1,_=>by kernel_rfl
 | 2,_=>by kernel_rfl
 | 3,_=>by kernel_rfl
 | 4,_=>by kernel_rfl
 | _+5,h=>by omega
theorem idsB:(loopsAt 19).length=1∧firstId (loopAt 19 0)=5:=⟨by kernel_rfl,by kernel_rfl⟩
theorem bi_rnd {P:Nat→Rdr→Got} {TZ:Rdr→Got} (hP:Deep P) (hT:TxOk TZ) {lvl:Nat} (hl:lvl < 5):∀(m:Nat) (e:ExprR) (z:Rdr) (e':ExprR) (z':Rdr),loopG P lvl m e z=some (e',z')→Rnd (loopAt 19 0) (sBi lvl e z) (.exit 0) (sBi lvl e' z')
 | 0,_,_,_,_,h=>by cases h
 | m+1,e,z,e',z',h=>by
  have step:=fun x S' (h:_=some (x,S'))=>goes_ofN (tP_ok hP hT (tell0_ok X0)) ((bBi P TZ e z lvl hl).trans h)
  unfold loopG goLv at h
  unfold bodyBi at step
  cases c1:z.c==0 with
  | false =>
   rw [c1] at h step
   simp only [Bool.false_and,cond_false,Option.some.injEq,Prod.mk.injEq] at h
   obtain ⟨rfl,rfl⟩:=h
   exact .stop (by simp) (step _ _ rfl)
  | true =>
  rw [c1] at h step
  simp only [Bool.true_and,cond_true] at h step
  cases c2:(tokZ z).kind==4 with
  | false =>
   rw [c2] at h step
   simp only [Bool.false_and,cond_false,Option.some.injEq,Prod.mk.injEq] at h
   obtain ⟨rfl,rfl⟩:=h
   exact .stop (by simp) (step _ _ rfl)
  | true =>
  rw [c2] at h step
  simp only [Bool.true_and,Bool.not_true,cond_false] at h step
  cases c3:hasM (k:=.str) (v:=.int) (lvOps lvl) (tokZ z).s with
  | false =>
   rw [c3] at h step
   simp only [cond_false,Option.some.injEq,Prod.mk.injEq] at h
   obtain ⟨rfl,rfl⟩:=h
   exact .stop (by simp) (step _ _ rfl)
  | true =>
  rw [c3] at h step
  simp only [cond_true,Bool.not_true,cond_false] at h step
  cases hx:P (lvl+2) (bump z) with
  | none=>rw [hx] at h;cases h
  | some q =>
  rw [hx] at h step
  simp only [thenG] at h
  cases c4:Nat.beq lvl 2 with
  | true =>
   rw [c4] at h step
   simp only [cond_true,Option.some.injEq,Prod.mk.injEq] at h
   obtain ⟨rfl,rfl⟩:=h
   exact .stop (by simp) (step _ _ rfl)
  | false =>
   rw [c4] at h step
   exact .step (step _ _ rfl) (bi_rnd hP hT hl m _ _ e' z' h)
noncomputable def LSB (P:Nat→Rdr→Got) (m:Nat) (S:St Pl):Option (Bool×LR Pl):=match seenS 62 [0,1,4,5,6] S with
 | some ([.ptr 50000 0,.int .i64 (.ofNat lvl),.ptr 4 0,.ptr 5 0,.ptr 6 0],[(6,.box false v),(50000,.box false zc),(5,.box false lv),(4,.box false zr)])=>match exN v,decR [.obB 50000 zc] with
  | some e,some z=>some (goodB (lvl < 5∧lv=cLv∧zr=zC0)&&okG (loopG P lvl m e z),.leaf (.exit 0) (sBi lvl (exG (loopG P lvl m e z)) (rdG (loopG P lvl m e z))))
  | _,_=>none
 | _=>none
theorem LSB_ok {P:Nat→Rdr→Got} {TZ:Rdr→Got} (hP:Deep P) (hT:TxOk TZ) (m:Nat):SOk X0 (loopAt 19 0) (LSB P m):=by
 intro S b r h hb
 unfold LSB at h
 split at h
 ·rename_i lvl v zc lv zr hs
  split at h
  ·rename_i e z he hz
   simp only [Option.some.injEq,Prod.mk.injEq] at h
   obtain ⟨rfl,rfl⟩:=h
   rw [Bool.and_eq_true] at hb
   obtain ⟨hl,rfl,rfl⟩:=of_goodB hb.1
   obtain rfl:=exN_eq he
   have hz':=decR_enc hz
   simp only [encR,List.cons.injEq,D.obB.injEq,true_and,and_true] at hz'
   subst hz'
   refine Goes.pre (keepOf [0,1,4,5,6]) ?_
   rw [seenS_mask hs]
   exact (bi_rnd hP hT hl m e z _ _ (okG_some hb.2)).goes
  ·simp at h
 ·simp at h
noncomputable def binK (P:Nat→Rdr→Got) (m lvl:Nat) (z:Rdr):Option (D Pl):=ckG (P (lvl+2) z) fun e z' =>
 ck_ (goodB (lvl < 5∧cLv=cLv∧zC0=zC0)&&okG (loopG P lvl m (nP e) z')) (env (rdG (loopG P lvl m (nP e) z')) (cExN (exG (loopG P lvl m (nP e) z'))))
theorem eBin (P:Nat→Rdr→Got) (TZ:Rdr→Got) (m:Nat) (z:Rdr):∀lvl:Nat,lvl < 5→evM (tP P TZ tell0) noTL (atL 5 (LSB P m) noL) 4 Tryz.f19 (decH (encR z)) [.ptr 50000 0,dI lvl]=binK P m lvl z
 | 0,_=>by kernel_rfl
 | 1,_=>by kernel_rfl
 | 2,_=>by kernel_rfl
 | 3,_=>by kernel_rfl
 | 4,_=>by kernel_rfl
 | _+5,h=>by omega
theorem bi_sound {P:Nat→Rdr→Got} {TZ:Rdr→Got} (hP:Deep P) (hT:TxOk TZ) {m lvl:Nat} (hl:lvl < 5) {z z':Rdr} {e:ExprR} (h:(thenG (P (lvl+2) z) fun e z'=>loopG P lvl m (nP e) z')=some (e,z')):SndR 19 z [dI lvl] (.agg (cExN e)) z':=by
 have hL:=loops_of (f:=19) (fn:=Tryz.f19) (by kernel_rfl) (loops_1 idsB.1 (L:=atL 5 (LSB P m) noL) (atL_ok (fun _=>LSB_ok hP hT m) fun h=>absurd idsB.2 h))
 refine snd_m (n:=4) (tP_ok hP hT (tell0_ok X0)) (noTL_ok _ _) (f:=19) (fn:=Tryz.f19) (by kernel_rfl) hL ((eBin P TZ m z lvl hl).trans ?_)
 unfold binK
 rw [ckG_eq]
 cases hx:P (lvl+2) z with
 | none=>rw [hx] at h;cases h
 | some q =>
  rw [hx] at h
  simp only [thenG] at h ⊢
  rw [h,show goodB (lvl < 5∧True∧True)=true from goodB_t ⟨hl,trivial,trivial⟩]
  rfl
def wrongP (j k:Nat) (z:Rdr):Got:=bif Nat.ble j k&&(Nat.ble k 7&&!(z.c==0)) then some (e00,z) else none
def noTZ:Rdr→Got:=fun _=>none
theorem noTZ_ok:TxOk noTZ:=fun z e z' _ h=>by cases h
theorem wrongP_some {j k:Nat} {z z':Rdr} {e:ExprR} (h:wrongP j k z=some (e,z')):j≤k∧k≤7∧(z.c==0)=false∧e=e00∧z'=z:=by
 unfold wrongP at h
 cases h1:Nat.ble j k with
 | false=>rw [h1] at h;cases h
 | true =>
 cases h2:Nat.ble k 7 with
 | false=>rw [h1,h2] at h;cases h
 | true =>
 cases h3:z.c==0 with
 | true=>rw [h1,h2,h3] at h;cases h
 | false =>
  rw [h1,h2,h3] at h
  simp only [Bool.not_false,Bool.and_self,cond_true,Option.some.injEq,Prod.mk.injEq] at h
  exact ⟨Nat.le_of_ble_eq_true h1,Nat.le_of_ble_eq_true h2,rfl,h.1.symm,h.2.symm⟩
theorem wrongP_of {j k:Nat} {z:Rdr} (h1:j≤k) (h2:k≤7) (h3:(z.c==0)=false):wrongP j k z=some (e00,z):=by
 unfold wrongP
 rw [Nat.ble_eq_true_of_le h1,Nat.ble_eq_true_of_le h2,h3]
 rfl
theorem nx_wrong {z:Rdr} (h:(z.c==0)=false) (s:Str):nxZ z s=false:=by unfold nxZ isA;rw [h];rfl
theorem wrong_7 {z:Rdr} (h:(z.c==0)=false) (P:Nat→Rdr→Got) (TZ:Rdr→Got) (m:Nat):postP P TZ (m+1) z=some (e00,z):=by
 unfold postP firstP
 rw [h]
 simp only [Bool.not_false,cond_true,thenG]
 unfold postL
 rw [h]
 rfl
theorem wrong_deep:∀k,k≤8→Deep (wrongP (8 - k))
 | 0,_=>⟨fun z e z' h=>by have:=wrongP_some h;omega,fun k z e z' _ h=>by have:=wrongP_some h;omega,fun z e z' h=>by have:=wrongP_some h;omega,fun z e z' h=>by have:=wrongP_some h;omega⟩
 | k+1,hk=>by
  have ih:=wrong_deep k (by omega)
  have hm:(1:Nat)≤1000000000:=by omega
  refine ⟨fun z e z' h=>?_,fun i z e z' hi h=>?_,fun z e z' h=>?_,fun z e z' h=>?_⟩
  ·obtain ⟨h1,h2,h3,rfl,rfl⟩:=wrongP_some h
   obtain rfl:k=7:=by omega
   refine ex_sound ih noTZ_ok ?_
   unfold exprP
   rw [wrongP_of (by omega) (by omega) h3]
   simp only [thenG]
   rw [nx_wrong h3]
   rfl
  ·obtain ⟨h1,h2,h3,rfl,rfl⟩:=wrongP_some h
   by_cases hj:8 - k≤i+1
   ·exact ih.bi i _ _ _ hi (wrongP_of hj h2 h3)
   ·by_cases h5:i=5
    ·subst h5
     refine b5_sound (P:=wrongP 6) (fun z e z' h=>?_) (wrongP_of (by omega) (by omega) h3)
     obtain ⟨_,_,h3,rfl,rfl⟩:=wrongP_some h
     refine un_sound ih noTZ_ok ?_
     unfold unaryP
     rw [nx_wrong h3,nx_wrong h3]
     exact wrongP_of (by omega) (by omega) h3
    ·exact bi_sound ih noTZ_ok (m:=1) (lvl:=i) (by omega) (by
      rw [wrongP_of (j:=8 - k) (by omega) (by omega) h3]
      simp only [thenG]
      unfold loopG goLv
      rw [h3]
      rfl)
  ·obtain ⟨h1,h2,h3,rfl,rfl⟩:=wrongP_some h
   by_cases hj:8 - k≤6
   ·exact ih.un _ _ _ (wrongP_of hj (by omega) h3)
   ·refine un_sound ih noTZ_ok ?_
    unfold unaryP
    rw [nx_wrong h3,nx_wrong h3]
    exact wrongP_of (by omega) (by omega) h3
  ·obtain ⟨h1,h2,h3,rfl,rfl⟩:=wrongP_some h
   by_cases hj:8 - k≤7
   ·exact ih.po _ _ _ (wrongP_of hj (by omega) h3)
   ·exact post_sound ih noTZ_ok hm (wrong_7 h3 _ _ 0)
theorem wrong_any:Deep (wrongP 0):=wrong_deep 8 (by omega)
theorem readP_wrong (TZ:Rdr→Got) (n k:Nat) {z:Rdr} (h:(z.c==0)=false):readP TZ n k z=some (e00,z):=by
 match n,k with
 | 0,_=>simp only [readP,h];rfl
 | n+1,0=>simp only [readP,h];rfl
 | n+1,6=>simp only [readP,h];rfl
 | n+1,7=>simp only [readP,h];rfl
 | n+1,1=>simp only [readP,h];rfl
 | n+1,2=>simp only [readP,h];rfl
 | n+1,3=>simp only [readP,h];rfl
 | n+1,4=>simp only [readP,h];rfl
 | n+1,5=>simp only [readP,h];rfl
 | n+1,k+8=>simp only [readP,h];rfl
theorem read_deep {TZ:Rdr→Got} (hT:TxOk TZ):∀n,n≤1000000000→Deep (readP TZ n)
 | 0,_=>by
  have key:∀{k z e z'},readP TZ 0 k z=some (e,z')→(z.c==0)=false∧e=e00∧z'=z:=by
   intro k z e z' h
   simp only [readP] at h
   cases h3:z.c==0 with
   | true=>rw [h3] at h;cases h
   | false =>
    rw [h3] at h
    simp only [Bool.not_false,cond_true,Option.some.injEq,Prod.mk.injEq] at h
    exact ⟨rfl,h.1.symm,h.2.symm⟩
  refine ⟨fun z e z' h=>?_,fun i z e z' hi h=>?_,fun z e z' h=>?_,fun z e z' h=>?_⟩
  all_goals obtain ⟨h3,rfl,rfl⟩:=key h
  ·exact wrong_any.ex _ _ _ (wrongP_of (by omega) (by omega) h3)
  ·exact wrong_any.bi i _ _ _ hi (wrongP_of (by omega) (by omega) h3)
  ·exact wrong_any.un _ _ _ (wrongP_of (by omega) (by omega) h3)
  ·exact wrong_any.po _ _ _ (wrongP_of (by omega) (by omega) h3)
 | n+1,hn=>by
  have ih:=read_deep hT n (by omega)
  have wr:∀{k z e z'},readP TZ (n+1) k z=some (e,z')→(z.c==0)=false→e=e00∧z'=z:=by
   intro k z e z' h h3
   rw [readP_wrong TZ (n+1) k h3] at h
   simp only [Option.some.injEq,Prod.mk.injEq] at h
   exact ⟨h.1.symm,h.2.symm⟩
  have un:∀z e z',readP TZ (n+1) 6 z=some (e,z')→SndR 30 z [] (.agg (cExN e)) z':=by
   intro z e z' h
   cases h3:z.c==0 with
   | false=>obtain ⟨rfl,rfl⟩:=wr h h3;exact wrong_any.un _ _ _ (wrongP_of (by omega) (by omega) h3)
   | true=>simp only [readP,h3] at h;exact un_sound ih hT h
  refine ⟨fun z e z' h=>?_,fun i z e z' hi h=>?_,un,fun z e z' h=>?_⟩
  ·cases h3:z.c==0 with
   | false=>obtain ⟨rfl,rfl⟩:=wr h h3;exact wrong_any.ex _ _ _ (wrongP_of (by omega) (by omega) h3)
   | true=>simp only [readP,h3] at h;exact ex_sound ih hT h
  ·cases h3:z.c==0 with
   | false=>obtain ⟨rfl,rfl⟩:=wr h h3;exact wrong_any.bi i _ _ _ hi (wrongP_of (by omega) (by omega) h3)
   | true =>
    by_cases h5:i=5
    ·subst h5
     exact b5_sound un h
    ·have h:(thenG (readP TZ n (i+2) z) fun e z'=>loopG (readP TZ n) i n (nP e) z')=some (e,z'):=by
      match i,(show i < 5 by omega) with
      | 0,_=>simp only [readP,h3] at h;exact h
      | 1,_=>simp only [readP,h3] at h;exact h
      | 2,_=>simp only [readP,h3] at h;exact h
      | 3,_=>simp only [readP,h3] at h;exact h
      | 4,_=>simp only [readP,h3] at h;exact h
     exact bi_sound ih hT (by omega) h
  ·cases h3:z.c==0 with
   | false=>obtain ⟨rfl,rfl⟩:=wr h h3;exact wrong_any.po _ _ _ (wrongP_of (by omega) (by omega) h3)
   | true=>simp only [readP,h3] at h;exact post_sound ih hT (by omega) h
end Go.Proofs.YtcgbgcconigdbaaGreatDoor.Rd
namespace Go.Proofs.YtcgbgcconigdbaaGreatDoor
open Go.Eng Go.RowKit
set_option maxRecDepth 100000
def RowsIn (F:Nat→Prop) (av:Nat→Prop) (w:World):Prop:=∀(b:Nat) cells T,¬ av b→w.heap[b]?=some (.cells cells T (0,0))→15≤cells.size→F b
theorem tree_list_av {F av:Nat→Prop} {w:World} (hP:RowsIn F av w) {l:List ExprR} (hl:∀x,x∈l→∀(j:Nat) d u,j < 12→(cExN x)[j]?=some d→RD X0.C (cx0 w av) u d→RD X0.C (cxF F w) u d) {u:Value}
  (h:RD X0.C (cx0 w av) u (.pl (pExprs l) .any)):RD X0.C (cxF F w) u (.pl (pExprs l) .any):=by
 by_cases h0:l.length=0
 ·exact pl_nil h0 h
 cases h with
 | pl0 a c _ _ hl hk=>exact absurd hl h0
 | pl b off n c _ _ vs hn hc hb hk hav hcell h1 hrd hsp hal =>
  obtain ⟨ha,cells,T,hh⟩:=hal rfl
  have hh:w.heap[b]?=some (.cells cells T (0,0)):=hh
  have hel:∀(i j:Nat),j < 15→∃d,(X0.C.elem (pExprs l) i)[j]?=some d:=fun i j hj=>⟨_,List.getElem?_eq_getElem (by rw [elem_N,cExN_len];exact hj)⟩
  have hj:∀{i j:Nat} {d},(X0.C.elem (pExprs l) i)[j]?=some d→j < 15:=fun {i j d} h=>by
   rw [elem_N] at h
   rcases Nat.lt_or_ge j 15 with h' | h'
   ·exact h'
   ·rw [List.getElem?_eq_none (by rw [cExN_len];exact h')] at h;cases h
  have hn0:0 < n:=by have:n=l.length:=hn;omega
  have hF:F b:=by
   refine hP b cells T hav hh ?_
   obtain ⟨d,hd⟩:=hel 0 14 (by omega)
   have:=hcell 0 14 d hn0 hd
   have:w.cell? ⟨b,off+(0 * 15+14),none⟩=some (vs 0 14):=this
   rw [cell_at (w:=w) hh] at this
   have:=(Array.getElem?_eq_some_iff.1 this).1
   omega
  refine .pl b off n c (pExprs l) .any vs hn hc hb hk (fun hnF=>hnF hF) hcell h1 (fun i j d hi hd=>?_) True.intro hal
  have hjl:=hj hd
  by_cases h12:j < 12
  ·have hmem:l.getD i default∈l:=by
    have:i < l.length:=by rw [hn] at hi;exact hi
    rw [List.getD_eq_getElem?_getD,List.getElem?_eq_getElem this];exact List.getElem_mem this
   exact hl _ hmem j d _ h12 (by rw [←elem_N];exact hd) (hrd i j d hi hd)
  ·have hr:=hrd i j d hi hd
   have:d=.num:=by
    have hd':=hd
    rw [elem_N] at hd'
    match j,h12,hjl with
    | 12,_,_=>simpa [cExN] using hd'.symm
    | 13,_,_=>simpa [cExN] using hd'.symm
    | 14,_,_=>simpa [cExN] using hd'.symm
   subst this
   exact plain_rd rfl hr
theorem tree_cell_av {F av:Nat→Prop} {w:World} (hP:RowsIn F av w) {e:ExprR} (hb:Bare e):∀(j:Nat) d u,j < 12→(cExN e)[j]?=some d→RD X0.C (cx0 w av) u d→RD X0.C (cxF F w) u d:=by
 induction hb with
 | mk e h1 h2 h ih =>
  intro j d u hj hd hr
  match j,hj with
  | 0,_=>simp only [cExN,List.getElem?_cons_zero,Option.some.injEq] at hd;subst hd;exact plain_rd rfl hr
  | 1,_=>simp only [cExN,List.getElem?_cons_succ,List.getElem?_cons_zero,Option.some.injEq] at hd;subst hd;exact plain_rd rfl hr
  | 2,_=>simp only [cExN,List.getElem?_cons_succ,List.getElem?_cons_zero,Option.some.injEq] at hd;subst hd;exact plain_rd rfl hr
  | 3,_=>simp only [cExN,List.getElem?_cons_succ,List.getElem?_cons_zero,Option.some.injEq] at hd;subst hd;exact plain_rd rfl hr
  | 4,_=>simp only [cExN,List.getElem?_cons_succ,List.getElem?_cons_zero,Option.some.injEq] at hd;subst hd;exact plain_rd rfl hr
  | 5,_=>simp only [cExN,List.getElem?_cons_succ,List.getElem?_cons_zero,Option.some.injEq] at hd;subst hd;exact plain_rd rfl hr
  | 6,_ =>
   simp only [cExN,List.getElem?_cons_succ,List.getElem?_cons_zero,Option.some.injEq] at hd;subst hd
   exact pl_nil (by show e.v.l.length=0;rw [h1];rfl) hr
  | 7,_ =>
   simp only [cExN,List.getElem?_cons_succ,List.getElem?_cons_zero,Option.some.injEq] at hd;subst hd
   exact pl_nil (by show e.v.keys.length=0;rw [h2];rfl) hr
  | 8,_=>simp only [cExN,List.getElem?_cons_succ,List.getElem?_cons_zero,Option.some.injEq] at hd;subst hd;exact plain_rd rfl hr
  | 9,_=>simp only [cExN,List.getElem?_cons_succ,List.getElem?_cons_zero,Option.some.injEq] at hd;subst hd;exact plain_rd rfl hr
  | 10,_=>simp only [cExN,List.getElem?_cons_succ,List.getElem?_cons_zero,Option.some.injEq] at hd;subst hd;exact plain_rd rfl hr
  | 11,_ =>
   simp only [cExN,List.getElem?_cons_succ,List.getElem?_cons_zero,Option.some.injEq] at hd;subst hd
   exact tree_list_av hP (fun x hx=>ih x hx) hr
theorem tree_av {F av:Nat→Prop} {w:World} (hP:RowsIn F av w) {e:ExprR} (hb:Bare e) {v:Value} (h:RD X0.C (cx0 w av) v (.agg (cExN e))):RD X0.C (cxF F w) v (.agg (cExN e)):=by
 obtain ⟨vs,rfl,hs,h1,hr⟩:=rd_agg_get h
 refine .agg vs _ hs h1 fun i u c hu hc=>?_
 by_cases hi:i < 12
 ·exact tree_cell_av hP hb i c u hi hc (hr i u c hu hc)
 ·have hlt:i < 15:=by
   rcases Nat.lt_or_ge i 15 with h' | h'
   ·exact h'
   ·rw [List.getElem?_eq_none (by rw [cExN_len];exact h')] at hc;cases hc
  have:c=.num:=by
   match i,hi,hlt with
   | 12,_,_=>simpa [cExN] using hc.symm
   | 13,_,_=>simpa [cExN] using hc.symm
   | 14,_,_=>simpa [cExN] using hc.symm
  subst this
  exact plain_rd rfl (hr i u _ hu hc)
def madeF (w1 w2:World) (b:Nat):Prop:=w1.heap.size≤b∧b < w2.heap.size
def gFr (g:Gh) (rho:Nat→Option Nat) (hs:Obs Pl) (w1 w2:World):Gh:=⟨w2,fun b=>g.av0 b∨madeF w1 w2 b,rho,fun b=>∃o ob,Eng.look hs o=some ob∧rho o=some b,g.top⟩
variable {g:Gh} {rho:Nat→Option Nat} {S:St Pl} {a:Act} {w1 w2:World}
theorem glob_blk {av:Nat→Prop} {w:World} {i:Nat} {cs:List (D Pl)} (h:RD X0.C (cx0 w av) (.pointer (some ⟨i,0,none⟩)) (.ref cs)) (hc:cs=[.ifa]) {av':Nat→Prop} {w':World} (hav:¬ av' i) (hw:w'.heap[i]?=w.heap[i]?):RD X0.C (cx0 w' av') (.pointer (some ⟨i,0,none⟩)) (.ref cs):=by
 subst hc
 generalize hv:Value.pointer (some ⟨i,0,none⟩)=v at h
 cases h with
 | ref b off _ vs _ hcell h1 hrd =>
  simp only [Value.pointer.injEq,Option.some.injEq,Addr.mk.injEq,and_true] at hv
  obtain ⟨rfl,rfl⟩:=hv
  refine .ref i 0 _ vs (fun _=>hav) (fun j c hc=>?_) h1 fun j c hc=>?_
  ·have:=hcell j c hc
   show w'.cell? _=_
   rw [cell_of_heap hw];exact this
  ·have hr:=hrd j c hc
   match j with
   | 0 =>
    simp only [List.getElem?_cons_zero,Option.some.injEq] at hc
    subst hc
    generalize vs 0=v at hr ⊢
    cases hr with
    | ifa t v=>exact .ifa t v
   | j+1=>simp at hc
theorem glob_one {i:Nat} {cs:List (D Pl)} (h:X0.glob i=some cs):cs=[.ifa]:=by
 have h:glb i=some cs:=h
 unfold glb at h
 split at h
 ·exact (Option.some.inj h).symm
 ·exact (Option.some.inj h).symm
 ·cases h
theorem glob_av0 {av:Nat→Prop} {w:World} {i:Nat} {cs:List (D Pl)} (h:RD X0.C (cx0 w av) (.pointer (some ⟨i,0,none⟩)) (.ref cs)) (hc:cs=[.ifa]):¬ av i:=by
 subst hc
 generalize hv:Value.pointer (some ⟨i,0,none⟩)=v at h
 cases h with
 | ref b off _ vs hav hcell h1 hrd =>
  simp only [Value.pointer.injEq,Option.some.injEq,Addr.mk.injEq,and_true] at hv
  obtain ⟨rfl,rfl⟩:=hv
  exact hav (by simp)
theorem fresh_in (hS:Sim X0 { g with rho:=rho } S.tm S.hs a w1) (hB:BelowD X0.C.dr w1.heap.size w1 w2):Sim X0 (gFr g rho S.hs w1 w2) S.tm S.hs a w2:=by
 have hle:CxLe X0.C (fun _=>false) (cxOf { g with rho:=rho } S.hs w1) (cxOf (gFr g rho S.hs w1 w2) S.hs w2):=by
  refine ⟨fun b ob _ ho=>?_,fun b ob ho hav hav'=>?_,fun _ _ _ h=>h,fun o b p _ h=>⟨p,h,rfl,rfl⟩,fun b cells T fz ho=>?_⟩
  ·show w2.heap[b]?=_
   rw [hB.block b (lt_of_heap ho)];exact ho
  ·rcases hav' with (h | h) | h
   ·exact hav (.inl h)
   ·have:=lt_of_heap ho
    have h:=h.1
    have:b < w1.heap.size:=this
    omega
   ·exact hav (.inr h)
  ·refine ⟨cells,T,fz,?_,rfl⟩
   show w2.heap[b]?=_
   rw [hB.block b (lt_of_heap ho)];exact ho
 have hown:=hS.own
 refine ⟨hS.size,fun t=>?_,hS.dfr,fun o ob ho=>?_,hS.inj,fun o ob b ho hr=>⟨.inr ⟨o,ob,ho,hr⟩,Nat.lt_of_lt_of_le (hown o ob b ho hr).2 hB.size⟩,toL (BelowD.refl _ _),fun b hb=>?_,fun b ⟨o,ob,ho,hr⟩=>⟨Nat.lt_of_lt_of_le (hown o ob b ho hr).2 hB.size,fun hb=>?_⟩,hS.top,fun i cs hg=>?_⟩
 ·have:=RG.kill xok.pay hle (hS.tm t)
  rwa [kill_none] at this
 ·have:=ObRel.grow xok.pay hle (b:=rho o) (fun b' ob' hr hb'=>by
   show w2.heap[b']?=_
   rw [hB.block b' (lt_of_heap hb')];exact hb') (hS.obs o ob ho)
  rwa [killOb_none] at this
 ·rcases hb with hb | hb
  ·have h1:=hS.av0 b hb
   have h2:=hS.below.size
   have h3:=hB.size
   have h1:b < g.w0.heap.size:=h1
   have h2:g.w0.heap.size≤w1.heap.size:=h2
   show b < w2.heap.size
   omega
  ·exact hb.2
 ·rcases hb with hb | hb
  ·exact hS.not0 ho hr hb
  ·have:=(hown o ob b ho hr).2
   have:=hb.1
   omega
 ·obtain ⟨h1,h2⟩:=hS.glob i cs hg
  have hc:=glob_one hg
  have hav:=glob_av0 h1 hc
  have hlt:i < g.w0.heap.size:=by
   obtain ⟨cells,T,fz,hh,_⟩:=h2
   exact lt_of_heap hh
  have e1:w1.heap[i]?=g.w0.heap[i]?:=hS.below.block i hlt fun h=>hav (.inr h)
  have hsz:g.w0.heap.size≤w1.heap.size:=hS.below.size
  have e2:w2.heap[i]?=g.w0.heap[i]?:=(hB.block i (Nat.lt_of_lt_of_le hlt hsz)).trans e1
  refine ⟨glob_blk h1 hc (fun h=>?_) e2,?_⟩
  ·rcases h with (h | h) | ⟨o,ob,ho,hr⟩
   ·exact hav (.inl h)
   ·have:=h.1;omega
   ·rcases (hown o ob i ho hr).1 with h | h
    ·have h:g.w0.heap.size≤i:=h
     omega
    ·exact hav (.inr h)
  ·obtain ⟨cells,T,fz,hh,hz⟩:=h2
   refine ⟨cells,T,fz,?_,hz⟩
   show w2.heap[i]?=_
   rw [e2];exact hh
theorem fresh_out {S1:St Pl} {a1:Act} (hS1:Sim X0 { g with rho:=rho } S1.tm S1.hs a1 w1) (hB:BelowD X0.C.dr w1.heap.size w1 w2) {rho':Nat→Option Nat} {w w':World} (hS:Sim X0 { gFr g rho S1.hs w1 w2 with rho:=rho' } S.tm S.hs a w) (hP:PosW (madeF w1 w2) w w') :
  Sim X0 { g with rho:=rho' } S.tm S.hs a w':=by
 have s0:g.w0.heap.size≤w1.heap.size:=hS1.below.size
 have s1:w1.heap.size≤w2.heap.size:=hB.size
 have s2:w2.heap.size≤w.heap.size:=hS.below.size
 have s3:=hP.size
 have hle:CxLe X0.C (fun _=>false) (cxOf { gFr g rho S1.hs w1 w2 with rho:=rho' } S.hs w) (cxOf { g with rho:=rho' } S.hs w'):=by
  refine ⟨fun b ob hav ho=>?_,fun b ob ho hav hav'=>?_,fun _ _ _ h=>h,fun o b p _ h=>⟨p,h,rfl,rfl⟩,hP.sz⟩
  ·show w'.heap[b]?=_
   rw [hP.old b (lt_of_heap ho) fun h=>hav (.inl (.inr h))];exact ho
  ·rcases hav' with h | h
   ·exact hav (.inl (.inl h))
   ·exact hav (.inr h)
 have hown1:∀b,(∃o ob,Eng.look S1.hs o=some ob∧rho o=some b)→(g.w0.heap.size≤b∨g.lent b)∧b < w1.heap.size:=fun b ⟨o,ob,ho,hr⟩=>hS1.own o ob b ho hr
 have hmid:∀k,k < g.w0.heap.size→¬ g.lent k→w'.heap[k]?=g.w0.heap[k]?:=fun k hk hl=>by
  have h1:w1.heap[k]?=g.w0.heap[k]?:=hS1.below.block k hk hl
  have h2:w2.heap[k]?=w1.heap[k]?:=hB.block k (by omega)
  have h3:w.heap[k]?=w2.heap[k]?:=hS.below.block k (by show k < w2.heap.size;omega) fun h=>by
   rcases (hown1 k h).1 with h | h
   ·omega
   ·exact hl h
  have h4:w'.heap[k]?=w.heap[k]?:=hP.old k (by omega) fun h=>by have:=h.1;omega
  rw [h4,h3,h2,h1]
 refine ⟨hS.size,fun t=>?_,hS.dfr,fun o ob ho=>?_,hS.inj,fun o ob b ho hr=>?_,⟨?_,?_,?_,by show g.w0.heap.size≤w'.heap.size;omega,hmid,fun k cells T fz hk hc=>?_,fun h=>(by cases h)⟩,hS1.av0,hS1.lav,hS.top,hS1.glob⟩
 ·have:=RG.kill xok.pay hle (hS.tm t)
  rwa [kill_none] at this
 ·have:=ObRel.grow xok.pay hle (b:=rho' o) (fun b' ob' hr hb'=>by
   show w'.heap[b']?=_
   rw [hP.old b' (lt_of_heap hb') fun h=>?_]
   ·exact hb'
   ·rcases (hS.own o ob b' ho hr).1 with h' | h'
    ·have h':w2.heap.size≤b':=h'
     have:=h.2
     omega
    ·have:=(hown1 b' h').2
     have:=h.1
     omega) (hS.obs o ob ho)
  rwa [killOb_none] at this
 ·obtain ⟨h1,h2⟩:=hS.own o ob b ho hr
  refine ⟨?_,by omega⟩
  rcases h1 with h1 | h1
  ·have h1:w2.heap.size≤b:=h1
   exact .inl (by show g.w0.heap.size≤b;omega)
  ·exact (hown1 b h1).1
 ·exact hP.os.trans (hS.below.os.trans (hB.os.trans hS1.below.os))
 ·exact hP.tape.trans (hS.below.tape.trans (hB.tape.trans hS1.below.tape))
 ·exact hP.output.trans (hS.below.output.trans (hB.output.trans hS1.below.output))
 ·obtain ⟨c1,T1,f1,h1,e1⟩:=hS1.below.row k cells T fz hk hc
  have h2:w2.heap[k]?=some (.cells c1 T1 f1):=by rw [hB.block k (lt_of_heap h1)];exact h1
  obtain ⟨c3,T3,f3,h3,e3⟩:=hS.below.row k c1 T1 f1 (lt_of_heap h2) h2
  obtain ⟨c4,T4,f4,h4,e4⟩:=hP.sz k c3 T3 f3 h3
  exact ⟨c4,T4,f4,h4,e4.trans (e3.trans e1)⟩
theorem fresh_same {S1:St Pl} {a1:Act} (hS1:Sim X0 { g with rho:=rho } S1.tm S1.hs a1 w1) {rho':Nat→Option Nat} {w:World} (hS:Sim X0 { gFr g rho S1.hs w1 w2 with rho:=rho' } S.tm S.hs a w):∀b,madeF w1 w2 b→w.heap[b]?=w2.heap[b]? :=
 fun b hb=>hS.below.block b hb.2 fun ⟨o,ob,ho,hr⟩=>by
  have:=(hS1.own o ob b ho hr).2
  have:=hb.1
  omega
end Go.Proofs.YtcgbgcconigdbaaGreatDoor
