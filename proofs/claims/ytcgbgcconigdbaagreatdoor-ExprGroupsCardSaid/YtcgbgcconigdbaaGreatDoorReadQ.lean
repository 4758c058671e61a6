/-
 WHAT THE PROGRAM's READER READS: what stands behind something, by its contract; signs of one operand; expressions.
-/
import Derived.Test.YtcgbgcconigdbaaGreatDoorReadC
namespace Go.Proofs.YtcgbgcconigdbaaGreatDoor.Rd
open Go.Eng
set_option maxRecDepth 100000
def namedK2 (P:Nat→Rdr→Got) (m:Nat) (t:TokR) (z:Rdr):Option (D Pl):=bif !(nxZ z [40]) then env z (cEq 2 t.s [] 0 0 [] .nilS t.p) else ckL (listP (itemP P) m [41] (bump z)) fun l z'=>env z' (cEq 5 t.s [] 0 0 [] (.pl (pExprs l) .any) t.p)
def namedL (z:Rdr) (t:TokR):Option (D Pl):=bif t.s==[116,114,117,101] then env (bump z) (cEq 1 [] [] 1 1 [] .nilS t.p) else env (bump z) (cEq 1 [] [] 1 0 [] .nilS t.p)
def namedN (P:Nat→Rdr→Got) (m:Nat) (z:Rdr) (t:TokR):Option (D Pl) :=
 bif t.s==[110,117,108,108] then env (bump z) (cEq 1 [] [] 0 0 [] .nilS t.p)
 else bif resV t.s then namedK2 P m t (failZ (bump z) t.p) else namedK2 P m t (bump z)
def namedK (P:Nat→Rdr→Got) (m:Nat) (z:Rdr) (t:TokR):Option (D Pl) :=
 bif t.s==[116,114,117,101] then (bif t.s==[116,114,117,101] then namedL z t else namedN P m z t) else (bif t.s==[102,97,108,115,101] then namedL z t else namedN P m z t)
theorem eNamed (P:Nat→Rdr→Got) (TZ:Rdr→Got) (m:Nat) (z:Rdr) (t:TokR):evM (tB P TZ m tell0) noTL noL 4 Tryz.f54 (decH (encR z)) [.ptr 50000 0,.agg (cTok t)]=namedK P m z t:=by kernel_rfl
theorem sndE_of {R:Eng.Told Pl} (hR:TOk R) {n:Nat} {L:LK Pl} {g:FuncId} {fn:Func} {z z':Rdr} {args cs:List (D Pl)} {e:ExprR} (hf:F0 g=some fn) (hL:∀code,fn.body=some code→∀b∈loopsOf code,LoopOk X0 L b)
  (h:evM R noTL L n fn (decH (encR z)) (.ptr 50000 0::args)=env z' cs) (he:asN (.agg cs)=some e):SndR g z args (.agg (cExN e)) z':=SoundM.post (asN_rdle he) (snd_m hR (noTL_ok _ _) hf hL h)
theorem named_sound {P:Nat→Rdr→Got} {TZ:Rdr→Got} (hP:Deep P) (hT:TxOk TZ) {m:Nat} (hm:m≤1000000000) {t:TokR} {z z':Rdr} {e:ExprR} (h:namedP P m z t=some (e,z')):SndR 54 z [.agg (cTok t)] (.agg (cExN e)) z':=by
 have key:∀{z1:Rdr} {cs:List (D Pl)} {e1:ExprR},namedK P m z t=env z1 cs→asN (.agg cs)=some e1→some (e1,z1)=some (e,z')→SndR 54 z [.agg (cTok t)] (.agg (cExN e)) z':=by
  intro z1 cs e1 h1 h2 h3
  simp only [Option.some.injEq,Prod.mk.injEq] at h3
  obtain ⟨rfl,rfl⟩:=h3
  exact sndE_of (tB_ok hP hT hm (tell0_ok _)) (n:=4) (fn:=Tryz.f54) (by kernel_rfl) (loops_of (f:=54) (fn:=Tryz.f54) (by kernel_rfl) (loops_0 (by kernel_rfl))) ((eNamed P TZ m z t).trans h1) h2
 unfold namedP at h
 unfold namedK namedL namedN at key
 cases h1:t.s==[116,114,117,101] with
 | true=>rw [h1] at h key;exact key rfl rfl h
 | false =>
 rw [h1] at h key
 simp only [cond_false] at h key
 cases h2:t.s==[102,97,108,115,101] with
 | true=>rw [h2] at h key;exact key rfl rfl h
 | false =>
 rw [h2] at h key
 simp only [cond_false] at h key
 cases h3:t.s==[110,117,108,108] with
 | true=>rw [h3] at h key;exact key rfl rfl h
 | false =>
 rw [h3] at h key
 simp only [cond_false] at h key
 have hk:(bif resV t.s then namedK2 P m t (failZ (bump z) t.p) else namedK2 P m t (bump z))=namedK2 P m t (bif resV t.s then failZ (bump z) t.p else bump z):=by cases resV t.s<;>rfl
 rw [hk] at key
 generalize (bif resV t.s then failZ (bump z) t.p else bump z)=w at h key
 unfold namedK2 at key
 cases h4:nxZ w [40] with
 | false=>rw [h4] at h key;exact key rfl rfl h
 | true =>
  rw [h4] at h key
  simp only [Bool.not_true,cond_false,cond_true,ckL_eq] at h key
  cases hx:listP (itemP P) m [41] (bump w) with
  | none=>rw [hx] at h;cases h
  | some q=>rw [hx] at h key;exact key rfl rfl h
def pBk (P:Nat→Rdr→Got) (m:Nat) (z:Rdr):List (D Pl)→Option (Bool×D Pl×Rdr)
 | [.agg [.int .i64 _,.int .i64 _,.int .i64 _]]=>some (okG (brackP P m z),.agg (cExN (exG (brackP P m z))),rdG (brackP P m z))
 | _=>none
theorem pBk_ok {P:Nat→Rdr→Got} {TZ:Rdr→Got} (hP:Deep P) (hT:TxOk TZ) {m:Nat} (hm:m≤1000000000):∀z args c d z',pBk P m z args=some (c,d,z')→c=true→SndR 55 z args d z':=by
 intro z args c d z' h hc
 unfold pBk at h
 split at h
 ·rename_i x y w
  simp only [Option.some.injEq,Prod.mk.injEq] at h
  obtain ⟨h1,rfl,rfl⟩:=h
  exact brack_sound hP hT hm (p:=⟨x,y,w⟩) (okG_some (h1.trans hc))
 ·cases h
def pBc (P:Nat→Rdr→Got) (TZ:Rdr→Got) (m:Nat) (z:Rdr):List (D Pl)→Option (Bool×D Pl×Rdr)
 | [.agg [.int .i64 _,.int .i64 _,.int .i64 _]]=>some (okG (braceP P TZ m z),.agg (cExN (exG (braceP P TZ m z))),rdG (braceP P TZ m z))
 | _=>none
theorem pBc_ok {P:Nat→Rdr→Got} {TZ:Rdr→Got} (hP:Deep P) (hT:TxOk TZ) {m:Nat} (hm:m≤1000000000):∀z args c d z',pBc P TZ m z args=some (c,d,z')→c=true→SndR 56 z args d z':=by
 intro z args c d z' h hc
 unfold pBc at h
 split at h
 ·rename_i x y w
  simp only [Option.some.injEq,Prod.mk.injEq] at h
  obtain ⟨h1,rfl,rfl⟩:=h
  exact brace_sound hP hT hm (p:=⟨x,y,w⟩) (okG_some (h1.trans hc))
 ·cases h
def pNd (P:Nat→Rdr→Got) (m:Nat) (z:Rdr):List (D Pl)→Option (Bool×D Pl×Rdr)
 | [.agg [.int .i64 k,.str s,.int .i64 n,.pl ⟨.parts,ps⟩ .any,.int .i64 a,.int .i64 b,.int .i64 c]] =>
  some (okG (namedP P m z ⟨k,s,n,ps,⟨a,b,c⟩⟩),.agg (cExN (exG (namedP P m z ⟨k,s,n,ps,⟨a,b,c⟩⟩))),rdG (namedP P m z ⟨k,s,n,ps,⟨a,b,c⟩⟩))
 | _=>none
theorem pNd_ok {P:Nat→Rdr→Got} {TZ:Rdr→Got} (hP:Deep P) (hT:TxOk TZ) {m:Nat} (hm:m≤1000000000):∀z args c d z',pNd P m z args=some (c,d,z')→c=true→SndR 54 z args d z':=by
 intro z args c d z' h hc
 unfold pNd at h
 split at h
 ·rename_i k s n ps x y w
  simp only [Option.some.injEq,Prod.mk.injEq] at h
  obtain ⟨h1,rfl,rfl⟩:=h
  exact named_sound hP hT hm (t:=⟨k,s,n,ps,⟨x,y,w⟩⟩) (okG_some (h1.trans hc))
 ·cases h
def tI (P:Nat→Rdr→Got) (TZ:Rdr→Got) (m:Nat) (R:Eng.Told Pl):Eng.Told Pl:=tP P TZ (tellM 55 (pR (pBk P m)) (tellM 56 (pR (pBc P TZ m)) (tellM 54 (pR (pNd P m)) R)))
theorem tI_ok {P:Nat→Rdr→Got} {TZ:Rdr→Got} (hP:Deep P) (hT:TxOk TZ) {m:Nat} (hm:m≤1000000000) {R:Eng.Told Pl} (h:TOk R):TOk (tI P TZ m R):=tP_ok hP hT (tellM_ok (pR_ok (pBk_ok hP hT hm)) (tellM_ok (pR_ok (pBc_ok hP hT hm)) (tellM_ok (pR_ok (pNd_ok hP hT hm)) h)))
def zC0:List (D Pl):=cEq 0 [] [] 0 0 [] .nilS p00
def got (r:Got):Option (D Pl):=ck_ (okG r) (env (rdG r) (cExN (exG r)))
def firstK (P:Nat→Rdr→Got) (TZ:Rdr→Got) (m:Nat) (z:Rdr) (t:TokR):Option (D Pl) :=
 bif !(z.c==0) then env (failZ z t.p) zC0
 else bif t.kind==2 then env (bump z) (cEq 1 [] [] 2 t.n [] .nilS t.p)
 else bif t.kind==3 then ck_ (okG (TZ z)&&z.c==0) (env (rdG (TZ z)) (cExN (exG (TZ z))))
 else bif t.kind==1 then got (namedP P m z t)
 else bif !(nxZ z [40]) then (bif !(nxZ z [91]) then (bif !(nxZ z [123]) then env (failZ z t.p) zC0 else got (braceP P TZ m (bump z))) else got (brackP P m (bump z)))
 else ckG (P 0 (bump z)) fun e z'=>env (mustZ z' [41]) (cExN e)
theorem eFirst (P:Nat→Rdr→Got) (TZ:Rdr→Got) (m:Nat) (z:Rdr):evM (tI P TZ m tell0) noTL noL 4 Tryz.f47 (decH (encR z)) [.ptr 50000 0]=firstK P TZ m z (tokZ z):=by kernel_rfl
end Go.Proofs.YtcgbgcconigdbaaGreatDoor.Rd
namespace Go.Proofs.YtcgbgcconigdbaaGreatDoor.Rd
open Go.Eng
set_option maxRecDepth 100000
theorem first_sound {P:Nat→Rdr→Got} {TZ:Rdr→Got} (hP:Deep P) (hT:TxOk TZ) {m:Nat} (hm:m≤1000000000) {z z':Rdr} {e:ExprR} (h:firstP P TZ m z=some (e,z')):SndR 47 z [] (.agg (cExN e)) z':=by
 have key:∀{z1:Rdr} {cs:List (D Pl)} {e1:ExprR},firstK P TZ m z (tokZ z)=env z1 cs→asN (.agg cs)=some e1→some (e1,z1)=some (e,z')→SndR 47 z [] (.agg (cExN e)) z':=by
  intro z1 cs e1 h1 h2 h3
  simp only [Option.some.injEq,Prod.mk.injEq] at h3
  obtain ⟨rfl,rfl⟩:=h3
  exact sndE_of (tI_ok hP hT hm (tell0_ok _)) (n:=4) (fn:=Tryz.f47) (by kernel_rfl) (loops_of (f:=47) (fn:=Tryz.f47) (by kernel_rfl) (loops_0 (by kernel_rfl))) ((eFirst P TZ m z).trans h1) h2
 have keyG:∀{z1:Rdr} {e1:ExprR},firstK P TZ m z (tokZ z)=env z1 (cExN e1)→some (e1,z1)=some (e,z')→SndR 47 z [] (.agg (cExN e)) z':=by
  intro z1 e1 h1 h3
  simp only [Option.some.injEq,Prod.mk.injEq] at h3
  obtain ⟨rfl,rfl⟩:=h3
  exact snd_m (n:=4) (tI_ok hP hT hm (tell0_ok _)) (noTL_ok _ _) (f:=47) (fn:=Tryz.f47) (by kernel_rfl) (loops_of (f:=47) (fn:=Tryz.f47) (by kernel_rfl) (loops_0 (by kernel_rfl))) ((eFirst P TZ m z).trans h1)
 unfold firstP at h
 unfold firstK at key keyG
 cases hc:z.c==0 with
 | false =>
  rw [hc] at h key
  have hf:failZ z (tokZ z).p=z:=by unfold failZ failC;rw [hc];rfl
  exact key (by simp only [Bool.not_false,cond_true];rw [hf]) (show asN (.agg zC0)=some e00 from rfl) h
 | true =>
 rw [hc] at h key keyG
 simp only [Bool.not_true,cond_false] at h key keyG
 cases h2:(tokZ z).kind==2 with
 | true=>rw [h2] at h key;exact key rfl rfl h
 | false =>
 rw [h2] at h key keyG
 simp only [cond_false] at h key keyG
 cases h3:(tokZ z).kind==3 with
 | true =>
  rw [h3] at h keyG
  simp only [cond_true] at h keyG
  cases hx:TZ z with
  | none=>rw [hx] at h;cases h
  | some q=>rw [hx] at h keyG;exact keyG rfl h
 | false =>
 rw [h3] at h key keyG
 simp only [cond_false] at h key keyG
 cases h1:(tokZ z).kind==1 with
 | true =>
  rw [h1] at h keyG
  simp only [cond_true] at h keyG
  cases hx:namedP P m z (tokZ z) with
  | none=>rw [hx] at h;cases h
  | some q=>rw [hx] at h keyG;exact keyG rfl h
 | false =>
 rw [h1] at h key keyG
 simp only [cond_false] at h key keyG
 cases hb:nxZ z [40] with
 | true =>
  rw [hb] at h key
  simp only [cond_true,Bool.not_true,cond_false,ckG_eq] at h key
  cases hx:P 0 (bump z) with
  | none=>rw [hx] at h;cases h
  | some q=>rw [hx] at h key;exact key rfl rfl h
 | false =>
 rw [hb] at h key keyG
 simp only [cond_false,Bool.not_false,cond_true] at h key keyG
 cases h5:nxZ z [91] with
 | true =>
  rw [h5] at h keyG
  simp only [cond_true,Bool.not_true,cond_false] at h keyG
  cases hx:brackP P m (bump z) with
  | none=>rw [hx] at h;cases h
  | some q=>rw [hx] at h keyG;exact keyG rfl h
 | false =>
 rw [h5] at h key keyG
 simp only [cond_false,Bool.not_false,cond_true] at h key keyG
 cases h6:nxZ z [123] with
 | true =>
  rw [h6] at h keyG
  simp only [cond_true,Bool.not_true,cond_false] at h keyG
  cases hx:braceP P TZ m (bump z) with
  | none=>rw [hx] at h;cases h
  | some q=>rw [hx] at h keyG;exact keyG rfl h
 | false =>
  rw [h6] at h key
  exact key rfl (show asN (.agg zC0)=some e00 from rfl) h
def numD:D Pl→D Pl
 | .int .i64 _=>.num
 | d=>d
def numF (b:Nat) (js:List Nat) (n i:Nat) (d:D Pl):D Pl:=bif Nat.beq n b&&memNat js i then numD d else d
def numS (b:Nat) (js:List Nat) (S:St Pl):St Pl:=⟨S.tm,mapH (numF b js) S.hs⟩
theorem numD_rd {cx:Cx Pl} {v:Value} {d:D Pl} (h:RD X0.C cx v d):RD X0.C cx v (numD d):=by
 unfold numD
 split
 ·exact h.le (.num _)
 ·exact h
theorem Weak.num (b:Nat) (js:List Nat) (S:St Pl):Weak X0 S (numS b js S):=fun g a w hS hK=>by
 have h1:=hS.turned (fun _ d=>d) (numF b js) (fun _=>rfl) (fun _ _ h=>h) (fun n i v d h=>by
  unfold numF
  cases Nat.beq n b&&memNat js i with
  | false=>exact h
  | true=>exact numD_rd h)
 rw [mapIdx_id] at h1
 exact ⟨g.rho,h1,hK⟩
noncomputable abbrev evN (R:Eng.Told Pl) (n:Nat) (code:Code) (F:Fix Pl) (b:Nat) (S:St Pl):Option (Ex×St Pl) :=
 exec X0 (callK X0 F0 R noTL n) noL code S (fun e S=>some (e,numS b [12,13,14] (fixS X0.C F S)))
theorem goes_ofN {R:Eng.Told Pl} (hR:TOk R) {n:Nat} {code:Code} {F:Fix Pl} {b:Nat} {S S':St Pl} {e:Ex} (h:evN R n code F b S=some (e,S')):Goes X0 code S e S':=by
 obtain ⟨e1,S1,h1,h2⟩:=body_goes xok fok hR (noTL_ok _ _) (fun b _=>noL_ok _ b) h
 simp only [Option.some.injEq,Prod.mk.injEq] at h1
 obtain ⟨rfl,rfl⟩:=h1
 exact (h2.weak (Weak.fix xok F S1)).weak (Weak.num _ _ _)
def sPo (e:ExprR) (z:Rdr):St Pl:=mkS 52 [(0,.ptr 50000 0),(2,.ptr 2 0),(3,.ptr 3 0)] [(3,.box false (cExN e)),(2,.box false zC0),(50000,.box false (cRdr z))]
def sPr (e:ExprR) (z:Rdr):St Pl:=mkS 52 [(0,.ptr 50000 0),(2,.ptr 2 0),(3,.ptr 3 0)] [(3,.box false (cExN e)),(2,.box false (cExN e)),(50000,.box false (cRdr z))]
def FPo:Fix Pl:={ keep:=[0,2,3],lose:=[4,5],wid:=[(3,6,pVals []),(3,7,pStrs []),(3,11,pExprs [])],ord:=[3,2,50000] }
def bodyPo (P:Nat→Rdr→Got) (e:ExprR) (z:Rdr):Option (Ex×St Pl) :=
 let n:=tokZ (bump z)
 let fin:=fun (z2:Rdr)=>some (Ex.normal,sPo (ndE 3 n.s [] [nP e]) (bump z2))
 bif z.c==0 then (bif !(nxZ z [46]) then (bif !(nxZ z [91]) then some (.ret,sPr e z) else ck_ (okG (P 0 (bump z))) (some (.normal,sPo (ndE 4 [] [] [nP e,nP (exG (P 0 (bump z)))]) (mustZ (rdG (P 0 (bump z))) [93]))))
   else bif n.kind != 1 then fin (failZ (bump z) n.p) else fin (bump z))
  else some (.exit 0,sPo e z)
theorem bPo (P:Nat→Rdr→Got) (TZ:Rdr→Got) (e:ExprR) (z:Rdr):evN (tP P TZ tell0) 4 (loopAt 39 0) FPo 3 (sPo e z)=bodyPo P e z:=by kernel_rfl
end Go.Proofs.YtcgbgcconigdbaaGreatDoor.Rd
namespace Go.Proofs.YtcgbgcconigdbaaGreatDoor.Rd
open Go.Eng
set_option maxRecDepth 100000
theorem idsPo:(loopsAt 39).length=1∧firstId (loopAt 39 0)=2:=⟨by kernel_rfl,by kernel_rfl⟩
def outPo (e:ExprR) (z:Rdr):Ex×St Pl:=bif z.c==0 then (.ret,sPr e z) else (.exit 0,sPo e z)
theorem po_rnd {P:Nat→Rdr→Got} {TZ:Rdr→Got} (hP:Deep P) (hT:TxOk TZ):∀(m:Nat) (e:ExprR) (z:Rdr) (e':ExprR) (z':Rdr),postL P m e z=some (e',z')→Rnd (loopAt 39 0) (sPo e z) (outPo e' z').1 (outPo e' z').2
 | 0,_,_,_,_,h=>by cases h
 | m+1,e,z,e',z',h=>by
  have step:=fun x S' (h:_=some (x,S'))=>goes_ofN (tP_ok hP hT (tell0_ok X0)) ((bPo P TZ e z).trans h)
  unfold postL at h
  unfold bodyPo at step
  cases c1:z.c==0 with
  | false =>
   rw [c1] at h step
   simp only [cond_false,Option.some.injEq,Prod.mk.injEq] at h
   obtain ⟨rfl,rfl⟩:=h
   unfold outPo
   rw [c1]
   exact .stop (by simp) (step _ _ rfl)
  | true =>
  rw [c1] at h step
  simp only [cond_true] at h step
  cases c2:nxZ z [46] with
  | true =>
   rw [c2] at h step
   simp only [cond_true,Bool.not_true,cond_false] at h step
   cases c3:(tokZ (bump z)).kind != 1 with
   | true=>rw [c3] at h step;exact .step (step _ _ rfl) (po_rnd hP hT m _ _ e' z' h)
   | false=>rw [c3] at h step;exact .step (step _ _ rfl) (po_rnd hP hT m _ _ e' z' h)
  | false =>
  rw [c2] at h step
  simp only [Bool.not_false,cond_true,cond_false] at h step
  cases c3:nxZ z [91] with
  | false =>
   rw [c3] at h step
   simp only [cond_false,Option.some.injEq,Prod.mk.injEq] at h
   obtain ⟨rfl,rfl⟩:=h
   unfold outPo
   rw [c1]
   exact .stop (by simp) (step _ _ rfl)
  | true =>
  rw [c3] at h step
  simp only [Bool.not_true,cond_true,cond_false] at h step
  cases hx:P 0 (bump z) with
  | none=>rw [hx] at h;cases h
  | some q =>
   rw [hx] at h step
   exact .step (step _ _ rfl) (po_rnd hP hT m _ _ e' z' h)
def exN:List (D Pl)→Option ExprR
 | [.int .i64 op,.str s,.str s2,.int .i64 k,.int .i64 i,.str vs,.pl ⟨.vals,l⟩ .any,.pl ⟨.strs,ks⟩ .any,.int .i64 tk,.int .i64 tof,.bool sec,.pl ⟨.exprs,x⟩ .any,.num,.num,.num]=>some ⟨op,s,s2,⟨k,i,vs,l,ks,tk,tof,sec⟩,x,p00⟩
 | _=>none
theorem exN_eq {cs:List (D Pl)} {e:ExprR} (h:exN cs=some e):cs=cExN e:=by
 unfold exN at h
 split at h
 ·simp only [Option.some.injEq] at h
  subst h;rfl
 ·cases h
noncomputable def goodB (P:Prop):Bool:=@decide P (Classical.propDecidable _)
theorem goodB_t {P:Prop} (h:P):goodB P=true:=by unfold goodB;exact @decide_eq_true P (Classical.propDecidable _) h
theorem of_goodB {P:Prop} (h:goodB P=true):P:=by unfold goodB at h;exact @of_decide_eq_true P (Classical.propDecidable _) h
def pFs (P:Nat→Rdr→Got) (TZ:Rdr→Got) (m:Nat) (z:Rdr):List (D Pl)→Option (Bool×D Pl×Rdr)
 | []=>some (okG (firstP P TZ m z),.agg (cExN (exG (firstP P TZ m z))),rdG (firstP P TZ m z))
 | _=>none
theorem pFs_ok {P:Nat→Rdr→Got} {TZ:Rdr→Got} (hP:Deep P) (hT:TxOk TZ) {m:Nat} (hm:m≤1000000000):∀z args c d z',pFs P TZ m z args=some (c,d,z')→c=true→SndR 47 z args d z':=by
 intro z args c d z' h hc
 unfold pFs at h
 split at h
 ·simp only [Option.some.injEq,Prod.mk.injEq] at h
  obtain ⟨h1,rfl,rfl⟩:=h
  exact first_sound hP hT hm (okG_some (h1.trans hc))
 ·cases h
def tQ (P:Nat→Rdr→Got) (TZ:Rdr→Got) (m:Nat):Eng.Told Pl:=tP P TZ (tellM 47 (pR (pFs P TZ m)) tell0)
theorem tQ_ok {P:Nat→Rdr→Got} {TZ:Rdr→Got} (hP:Deep P) (hT:TxOk TZ) {m:Nat} (hm:m≤1000000000):TOk (tQ P TZ m):=tP_ok hP hT (tellM_ok (pR_ok (pFs_ok hP hT hm)) (tell0_ok _))
noncomputable def LSPo (P:Nat→Rdr→Got) (m:Nat) (S:St Pl):Option (Bool×LR Pl):=match seenS 52 [0,2,3] S with
 | some ([.ptr 50000 0,.ptr 2 0,.ptr 3 0],[(3,.box false v),(50000,.box false zc),(2,.box false zr)])=>match exN v,decR [.obB 50000 zc] with
  | some e,some z=>some (goodB (zr=zC0)&&okG (postL P m e z),.ite ((rdG (postL P m e z)).c==0) (.leaf .ret (sPr (exG (postL P m e z)) (rdG (postL P m e z)))) (.leaf (.exit 0) (sPo (exG (postL P m e z)) (rdG (postL P m e z)))))
  | _,_=>none
 | _=>none
theorem LSPo_ok {P:Nat→Rdr→Got} {TZ:Rdr→Got} (hP:Deep P) (hT:TxOk TZ) (m:Nat):SOk X0 (loopAt 39 0) (LSPo P m):=by
 intro S c r h hc
 unfold LSPo at h
 split at h
 ·rename_i v zc zr hs
  split at h
  ·rename_i e z he hz
   simp only [Option.some.injEq,Prod.mk.injEq] at h
   obtain ⟨rfl,rfl⟩:=h
   rw [Bool.and_eq_true] at hc
   obtain rfl:=of_goodB hc.1
   obtain rfl:=exN_eq he
   have hz':=decR_enc hz
   simp only [encR,List.cons.injEq,D.obB.injEq,true_and,and_true] at hz'
   subst hz'
   refine Goes.pre (keepOf [0,2,3]) ?_
   rw [seenS_mask hs]
   refine Goes.weakPre (Weak.ord [3,2,50000] _) ?_
   have:=(po_rnd hP hT m e z _ _ (okG_some hc.2)).goes
   revert this
   unfold outPo
   cases (rdG (postL P m e z)).c==0<;>exact id
  ·simp at h
 ·simp at h
noncomputable def postK (P:Nat→Rdr→Got) (TZ:Rdr→Got) (m:Nat) (z:Rdr):Option (D Pl):=ckG (firstP P TZ m z) fun e z1=>ck_ (goodB (zC0=zC0)&&okG (postL P m (nP e) z1)) (bif (rdG (postL P m (nP e) z1)).c==0 then env (rdG (postL P m (nP e) z1)) (cExN (exG (postL P m (nP e) z1))) else env (rdG (postL P m (nP e) z1)) (cExN (exG (postL P m (nP e) z1))))
theorem ePost (P:Nat→Rdr→Got) (TZ:Rdr→Got) (m:Nat) (z:Rdr):evM (tQ P TZ m) noTL (atL 2 (LSPo P m) noL) 4 Tryz.f39 (decH (encR z)) [.ptr 50000 0]=postK P TZ m z:=by kernel_rfl
end Go.Proofs.YtcgbgcconigdbaaGreatDoor.Rd
