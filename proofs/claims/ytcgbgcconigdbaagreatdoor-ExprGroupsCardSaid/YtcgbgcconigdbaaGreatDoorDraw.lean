/-
 A REGION IN ANY ORDER with one call in it, each of its states looked at: the states are what comes of the operations that are through.
-/
import Derived.Test.YtcgbgcconigdbaaGreatDoorReadE
namespace Go.Proofs.YtcgbgcconigdbaaGreatDoor.Rd
open Go.Eng
set_option maxRecDepth 100000
inductive Rnd (body:Code):St Pl→Ex→St Pl→Prop
 | stop {S S':St Pl} {e:Ex} (he:e≠.normal) (h:Goes X0 body S e S'):Rnd body S e S'
 | step {S S1 S':St Pl} {e:Ex} (h:Goes X0 body S .normal S1) (hr:Rnd body S1 e S'):Rnd body S e S'
theorem Rnd.goes {body:Code} {S S':St Pl} {e:Ex} (h:Rnd body S e S'):Goes X0 (.loop body) S e S':=by
 have key:∀{S e S'},Rnd body S e S'→e≠.normal∧∃(n:Nat) (T:Nat→St Pl),T 0=S∧(∀i,i < n→Goes X0 body (T i) .normal (T (i+1)))∧Goes X0 body (T n) e S':=by
  intro S e S' h
  induction h with
  | stop he h=>exact ⟨he,0,fun _=>_,rfl,fun i hi=>by omega,h⟩
  | step h _ ih =>
   obtain ⟨he,n,T,h0,h1,h2⟩:=ih
   rename_i S0 S1 _ _ _
   refine ⟨he,n+1,fun i=>match i with
    | 0=>S0
    | i+1=>T i,rfl,fun i hi=>?_,h2⟩
   match i with
   | 0=>show Goes X0 body S0 .normal (T 0);rw [h0];exact h
   | i+1=>exact h1 i (by omega)
 obtain ⟨he,n,T,h0,h1,h2⟩:=key h
 rw [←h0]
 exact loop_goes he n T h1 h2
noncomputable abbrev evZ (R:Eng.Told Pl) (TL:LoopsT Pl) (L:LK Pl) (n:Nat) (code:Code) (F:Fix Pl) (S:St Pl):Option (Ex×St Pl) :=
 exec X0 (callK X0 F0 R TL n) L code S (fun e S=>some (e,fixS X0.C F S))
theorem goes_ofZ {R:Eng.Told Pl} (hR:TOk R) {TL:LoopsT Pl} (hTL:LOk TL) {L:LK Pl} {n:Nat} {code:Code} {F:Fix Pl} {S S':St Pl} {e:Ex} (hL:∀b∈loopsOf code,LoopOk X0 L b)
  (h:evZ R TL L n code F S=some (e,S')):GoesTo code S e S':=by
 obtain ⟨e1,S1,h1,h2⟩:=body_goes xok fok hR hTL hL h
 simp only [Option.some.injEq,Prod.mk.injEq] at h1
 obtain ⟨rfl,rfl⟩:=h1
 exact h2.weak (Weak.fix xok F S1)
abbrev SndL (g:FuncId) (z:Rdr) (args:List (D Pl)) (l:List ExprR) (z':Rdr):Prop:=SndR g z args (.pl (pExprs l) .any) z'
theorem full_any (l:List ExprR) (k:SK):RDle X0.C (.pl (pExprs l) k) (.pl (pExprs l) .any):=RDle.of (.any _ _)
theorem item_sound {P:Nat→Rdr→Got} {TZ:Rdr→Got} (hP:Deep P) (hT:TxOk TZ) {z z':Rdr} {l:List ExprR} (h:itemP P z=some (l,z')):SndL 72 z [] l z':=by
 have key:=fun (k:SK) (h:evM (tP P TZ tell0) noTL noL 4 Tryz.f72 (decH (encR z)) [.ptr 50000 0]=envL z' l k) =>
  SoundM.post (full_any l k) (snd_m (n:=4) (tP_ok hP hT (tell0_ok _)) (noTL_ok _ _) (f:=72) (fn:=Tryz.f72) (by kernel_rfl) (loops_of (f:=72) (fn:=Tryz.f72) (by kernel_rfl) (loops_0 (by kernel_rfl))) h)
 unfold itemP at h
 refine key .full ((eItem P TZ z).trans ?_)
 rw [ckG_eq]
 cases hx:P 0 z with
 | none=>rw [hx] at h;cases h
 | some q =>
  rw [hx] at h
  simp only [thenG,Option.some.injEq,Prod.mk.injEq] at h
  obtain ⟨rfl,rfl⟩:=h
  rfl
theorem pair_sound {P:Nat→Rdr→Got} {TZ:Rdr→Got} (hP:Deep P) (hT:TxOk TZ) {z z':Rdr} {l:List ExprR} (hz:z.c=0) (h:pairP P TZ z=some (l,z')):SndL 77 z [] l z':=by
 have key:=fun (h:evM (tP P TZ tell0) noTL noL 4 Tryz.f77 (decH (encR z)) [.ptr 50000 0]=envL z' l .full) =>
  SoundM.post (full_any l _) (snd_m (n:=4) (tP_ok hP hT (tell0_ok _)) (noTL_ok _ _) (f:=77) (fn:=Tryz.f77) (by kernel_rfl) (loops_of (f:=77) (fn:=Tryz.f77) (by kernel_rfl) (loops_0 (by kernel_rfl))) h)
 refine key ((ePair P TZ z).trans ?_)
 unfold pairP at h
 have rest:∀k z1,(thenG (P 0 (bif nxZ z1 [61] then bump z1 else mustZ z1 [58])) fun e z2=>some ([nP k,nP e],z2))=some (l,z')→pairK P k z1=envL z' l .full:=by
  intro k z1 h
  unfold pairK
  simp only [ckG_eq]
  cases c:nxZ z1 [61] with
  | true =>
   rw [c] at h
   simp only [Bool.not_true,cond_false,cond_true] at h ⊢
   cases hx:P 0 (bump z1) with
   | none=>rw [hx] at h;cases h
   | some q=>rw [hx] at h;simp only [thenG,Option.some.injEq,Prod.mk.injEq] at h ⊢;obtain ⟨rfl,rfl⟩:=h;rfl
  | false =>
   rw [c] at h
   simp only [Bool.not_false,cond_false,cond_true] at h ⊢
   cases hx:P 0 (mustZ z1 [58]) with
   | none=>rw [hx] at h;cases h
   | some q=>rw [hx] at h;simp only [thenG,Option.some.injEq,Prod.mk.injEq] at h ⊢;obtain ⟨rfl,rfl⟩:=h;rfl
 unfold keyP at h
 cases c1:(tokZ z).kind==1 with
 | true=>rw [c1] at h;exact rest _ _ h
 | false =>
 rw [c1,cond_false] at h
 rw [cond_false]
 cases c3:(tokZ z).kind==3 with
 | false=>rw [c3] at h;exact rest _ _ h
 | true =>
 rw [c3,cond_true] at h
 rw [cond_true]
 cases hx:TZ z with
 | none=>rw [hx] at h;cases h
 | some q =>
  rw [hx] at h
  show ck_ (true&&z.c==0) (pairK P q.1 q.2)=_
  rw [hz]
  exact rest _ _ h
theorem item_len {P:Nat→Rdr→Got} {z z':Rdr} {l:List ExprR} (h:itemP P z=some (l,z')):l.length≤2:=by
 unfold itemP at h
 cases hx:P 0 z with
 | none=>rw [hx] at h;cases h
 | some q=>rw [hx] at h;simp only [thenG,Option.some.injEq,Prod.mk.injEq] at h;rw [←h.1];simp
theorem pair_len {P:Nat→Rdr→Got} {TZ:Rdr→Got} {z z':Rdr} {l:List ExprR} (h:pairP P TZ z=some (l,z')):l.length≤2:=by
 unfold pairP at h
 cases hk:keyP TZ z with
 | none=>rw [hk] at h;cases h
 | some q =>
  rw [hk] at h
  simp only [thenG] at h
  cases hx:P 0 (bif nxZ q.2 [61] then bump q.2 else mustZ q.2 [58]) with
  | none=>rw [hx] at h;cases h
  | some r=>rw [hx] at h;simp only [Option.some.injEq,Prod.mk.injEq] at h;rw [←h.1];simp
structure OneOk (one:Rdr→GotL) (g:FuncId):Prop where
 snd:∀z l z',z.c=0→one z=some (l,z')→SndL g z [] l z'
 len:∀z l z',one z=some (l,z')→l.length≤2
def pOne (one:Rdr→GotL) (z:Rdr):List (D Pl)→Option (Bool×D Pl×Rdr)
 | []=>some (okG (one z)&&z.c==0,.pl (pExprs (exL (one z))) .any,rdL (one z))
 | _=>none
theorem pOne_ok {one:Rdr→GotL} {g:FuncId} (h1:OneOk one g):∀z args c d z',pOne one z args=some (c,d,z')→c=true→SndR g z args d z':=by
 intro z args c d z' h hc
 unfold pOne at h
 split at h
 ·simp only [Option.some.injEq,Prod.mk.injEq] at h
  obtain ⟨h2,rfl,rfl⟩:=h
  rw [←h2,Bool.and_eq_true] at hc
  exact h1.snd _ _ _ (beq_iff_eq.1 hc.2) (okL_some hc.1)
 ·simp at h
def tO (one:Rdr→GotL) (g:FuncId):Eng.Told Pl:=tK (tellM g (pR (pOne one)) tell0)
theorem tO_ok {one:Rdr→GotL} {g:FuncId} (h1:OneOk one g):TOk (tO one g):=tK_ok (tellM_ok (pR_ok (pOne_ok h1)) (tell0_ok _))
def sLi (g:FuncId) (e:Str) (out:List ExprR) (z:Rdr):St Pl:=mkS 28 [(0,.ptr 50000 0),(1,.str e),(2,.fn g []),(6,.nilS),(7,.arr 20)] [(20,.arr false (pExprs out)),(50000,.box false (cRdr z))]
def FLi:Fix Pl:={ keep:=[0,1,2,6,7],ord:=[20,50000] }
def andF {β:Type} (x y:Bool) (A B:Option β):Option β:=bif (x==true) then (bif y then A else B) else B
def bodyLi (g:FuncId) (one:Rdr→GotL) (e:Str) (out:List ExprR) (z:Rdr):Option (Ex×St Pl) :=
 andF (z.c==0) (!(nxZ z e)) (ck_ (okG (one z)&&z.c==0) (ck_ (true&&Nat.ble ((out.length+(exL (one z)).length) * 192) big)
  (bif !(nxZ (rdL (one z)) [44]) then some (.exit 0,sLi g e (out++exL (one z)) (rdL (one z))) else some (.normal,sLi g e (out++exL (one z)) (bump (rdL (one z))))))) (some (.exit 0,sLi g e out z))
theorem bLi1 (one:Rdr→GotL) (e:Str) (out:List ExprR) (z:Rdr):evZ (tO one 72) noTL noL 3 (loopAt 71 0) FLi (sLi 72 e out z)=bodyLi 72 one e out z:=by kernel_rfl
theorem bLi2 (one:Rdr→GotL) (e:Str) (out:List ExprR) (z:Rdr):evZ (tO one 77) noTL noL 3 (loopAt 71 0) FLi (sLi 77 e out z)=bodyLi 77 one e out z:=by kernel_rfl
theorem idsLi:(loopsAt 71).length=1∧firstId (loopAt 71 0)=2∧loopsOf (loopAt 71 0)=[]:=⟨by kernel_rfl,by kernel_rfl,by kernel_rfl⟩
theorem li_rnd {one:Rdr→GotL} {g:FuncId} (h1:OneOk one g) (hb:∀e out z,evZ (tO one g) noTL noL 3 (loopAt 71 0) FLi (sLi g e out z)=bodyLi g one e out z) (e:Str) :
  ∀(m:Nat) (out:List ExprR) (z:Rdr) (l:List ExprR) (z':Rdr),out.length+2 * m≤4000000000→listL one e m out z=some (l,z')→Rnd (loopAt 71 0) (sLi g e out z) (.exit 0) (sLi g e l z')
 | 0,_,_,_,_,_,h=>by cases h
 | m+1,out,z,l,z',hm,h=>by
  have hbig:big=140737488355328:=rfl
  have step:=fun x S' (h:_=some (x,S'))=>goes_ofZ (tO_ok h1) (noTL_ok _ _) (noLoops idsLi.2.2) ((hb e out z).trans h)
  unfold listL at h
  unfold bodyLi andF at step
  cases c1:z.c==0 with
  | false =>
   rw [c1] at h step
   simp only [cond_false,Option.some.injEq,Prod.mk.injEq] at h
   obtain ⟨rfl,rfl⟩:=h
   exact .stop (by simp) (step _ _ rfl)
  | true =>
  rw [c1] at h step
  simp only [cond_true,BEq.rfl] at h step
  cases c2:nxZ z e with
  | true =>
   rw [c2] at h step
   simp only [Bool.not_true,cond_false,Option.some.injEq,Prod.mk.injEq] at h
   obtain ⟨rfl,rfl⟩:=h
   exact .stop (by simp) (step _ _ rfl)
  | false =>
  rw [c2] at h step
  simp only [Bool.not_false,cond_true] at h step
  cases hx:one z with
  | none=>rw [hx] at h;cases h
  | some q =>
  obtain ⟨l1,z1⟩:=q
  have hlen:=h1.len z l1 z1 hx
  rw [hx] at h step
  simp only [thenG] at h
  have step:∀(x:Ex) (S':St Pl),ck_ (true&&Nat.ble ((out.length+l1.length) * 192) big) (bif !(nxZ z1 [44]) then some (.exit 0,sLi g e (out++l1) z1) else some (.normal,sLi g e (out++l1) (bump z1)))=some (x,S')→Goes X0 (loopAt 71 0) (sLi g e out z) x S':=step
  rw [show Nat.ble ((out.length+l1.length) * 192) big=true from Nat.ble_eq_true_of_le (by omega)] at step
  cases c3:nxZ z1 [44] with
  | false =>
   rw [c3] at h step
   simp only [cond_false,Option.some.injEq,Prod.mk.injEq] at h
   obtain ⟨rfl,rfl⟩:=h
   exact .stop (by simp) (step _ _ rfl)
  | true =>
   rw [c3] at h step
   exact .step (step _ _ rfl) (li_rnd h1 hb e m _ _ l z' (by rw [List.length_append];omega) h)
def sLi0 (g:FuncId) (e:Str) (z:Rdr):St Pl:=mkS 28 [(0,.ptr 50000 0),(1,.str e),(2,.fn g []),(6,.nilS),(7,.nilS)] [(50000,.box false (cRdr z))]
theorem weakLi_eq (g:FuncId) (e:Str) (z:Rdr):nilsS X0.C [(.slot 7,20,pExprs [])] (sLi0 g e z)=sLi g e [] z:=by kernel_rfl
theorem weakLi (g:FuncId) (e:Str) (z:Rdr):Weak X0 (sLi0 g e z) (sLi g e [] z):=weakLi_eq g e z ▸ Weak.nils xok [(.slot 7,20,pExprs [])] (sLi0 g e z)
def LSLi (one:Rdr→GotL) (g m:Nat) (S:St Pl):Option (Bool×LR Pl):=match seenS 28 [0,1,2,6,7] S with
 | some ([.ptr 50000 0,.str e,.fn g' [],.nilS,.nilS],[(50000,.box false zc)])=>match decR [.obB 50000 zc] with
  | some z=>some (Nat.beq g' g&&okG (listL one e m [] z),.leaf (.exit 0) (sLi g e (exL (listL one e m [] z)) (rdL (listL one e m [] z))))
  | none=>none
 | _=>none
theorem LSLi_ok {one:Rdr→GotL} {g:FuncId} (h1:OneOk one g) (hb:∀e out z,evZ (tO one g) noTL noL 3 (loopAt 71 0) FLi (sLi g e out z)=bodyLi g one e out z) (m:Nat) (hm:m≤1000000000):SOk X0 (loopAt 71 0) (LSLi one g m):=by
 intro S c r h hc
 unfold LSLi at h
 split at h
 ·rename_i e g' zc hs
  split at h
  ·rename_i z hz
   simp only [Option.some.injEq,Prod.mk.injEq] at h
   obtain ⟨rfl,rfl⟩:=h
   rw [Bool.and_eq_true] at hc
   obtain rfl:=Nat.eq_of_beq_eq_true hc.1
   have hz':=decR_enc hz
   simp only [encR,List.cons.injEq,D.obB.injEq,true_and,and_true] at hz'
   subst hz'
   refine Goes.pre (keepOf [0,1,2,6,7]) ?_
   rw [seenS_mask hs]
   refine Goes.weakPre (weakLi g' e z) ?_
   exact (li_rnd h1 hb e m [] z _ _ (by simp;omega) (okL_some hc.2)).goes
  ·simp at h
 ·simp at h
theorem eList1 (one:Rdr→GotL) (m:Nat) (e:Str) (z:Rdr):evM (tK tell0) noTL (atL 2 (LSLi one 72 m) noL) 3 Tryz.f71 (decH (encR z)) [.ptr 50000 0,.str e,.fn 72 []] =
  ck_ (true&&okG (listL one e m [] z)) (envL (mustZ (rdL (listL one e m [] z)) e) (exL (listL one e m [] z)) .any):=by kernel_rfl
theorem eList2 (one:Rdr→GotL) (m:Nat) (e:Str) (z:Rdr):evM (tK tell0) noTL (atL 2 (LSLi one 77 m) noL) 3 Tryz.f71 (decH (encR z)) [.ptr 50000 0,.str e,.fn 77 []] =
  ck_ (true&&okG (listL one e m [] z)) (envL (mustZ (rdL (listL one e m [] z)) e) (exL (listL one e m [] z)) .any):=by kernel_rfl
theorem list_of {one:Rdr→GotL} {g:FuncId} (h1:OneOk one g) (hb:∀e out z,evZ (tO one g) noTL noL 3 (loopAt 71 0) FLi (sLi g e out z)=bodyLi g one e out z)
  (he:∀m e z,evM (tK tell0) noTL (atL 2 (LSLi one g m) noL) 3 Tryz.f71 (decH (encR z)) [.ptr 50000 0,.str e,.fn g []]=ck_ (true&&okG (listL one e m [] z)) (envL (mustZ (rdL (listL one e m [] z)) e) (exL (listL one e m [] z)) .any))
  {m:Nat} (hm:m≤1000000000) {e:Str} {z z':Rdr} {l:List ExprR} (h:listP one m e z=some (l,z')):SndR 71 z [.str e,.fn g []] (.pl (pExprs l) .any) z':=by
 unfold listP at h
 cases hx:listL one e m [] z with
 | none=>rw [hx] at h;cases h
 | some q =>
  have hE:=he m e z
  rw [hx] at h hE
  simp only [thenG,Option.some.injEq,Prod.mk.injEq] at h
  obtain ⟨rfl,rfl⟩:=h
  exact snd_m (n:=3) (tK_ok (tell0_ok _)) (noTL_ok _ _) (f:=71) (fn:=Tryz.f71) (by kernel_rfl) (loops_of (f:=71) (fn:=Tryz.f71) (by kernel_rfl) (loops_1 idsLi.1 (L:=atL 2 (LSLi one g m) noL) (atL_ok (fun _=>LSLi_ok h1 hb m hm) fun h=>absurd idsLi.2.1 h))) hE
theorem list_item {P:Nat→Rdr→Got} {TZ:Rdr→Got} (hP:Deep P) (hT:TxOk TZ) {m:Nat} (hm:m≤1000000000) {e:Str} {z z':Rdr} {l:List ExprR} (h:listP (itemP P) m e z=some (l,z')):SndR 71 z [.str e,.fn 72 []] (.pl (pExprs l) .any) z' :=
 list_of ⟨fun _ _ _ _ h=>item_sound hP hT h,fun _ _ _ h=>item_len h⟩ (fun e out z=>bLi1 _ e out z) (fun m e z=>eList1 _ m e z) hm h
theorem list_pair {P:Nat→Rdr→Got} {TZ:Rdr→Got} (hP:Deep P) (hT:TxOk TZ) {m:Nat} (hm:m≤1000000000) {e:Str} {z z':Rdr} {l:List ExprR} (h:listP (pairP P TZ) m e z=some (l,z')):SndR 71 z [.str e,.fn 77 []] (.pl (pExprs l) .any) z' :=
 list_of ⟨fun _ _ _ hz h=>pair_sound hP hT hz h,fun _ _ _ h=>pair_len h⟩ (fun e out z=>bLi2 _ e out z) (fun m e z=>eList2 _ m e z) hm h
end Go.Proofs.YtcgbgcconigdbaaGreatDoor.Rd
namespace Go.Eng
open Go.RowKit
theorem fnM_goes {α:Type} {X:Ctx α} (hX:XOk X) {f:FuncId} {fn:Func} {H:Obs α} {ds:List (D α)} {d:D α} {cd:Code} {e:Ex} {S':St α} (hf:X.P.funcs[f]?=some fn) (hn:(fn.name=="runtime.NumGoroutine")=false) (hb:fn.body=some cd)
  (hgo:Goes X cd ⟨ds++List.replicate (fn.ntmps - ds.length) .bad,H⟩ e S') (hne:∀id,e≠.exit id) (hfd:finM X fn H S'=some d):∃os' d',d=.env os' d'∧SoundM X.P X.C X.glob f H ds d' (decH os'):=by
 unfold finM at hfd
 simp only at hfd
 split at hfd
 case h_2=>simp at hfd
 rename_i rs hrs
 generalize hnw:nmFrom 90000000 ((boxesOf S'.hs 64 (ptrsL X.own rs++((H.filter fun x=>Nat.blt x.1 100000).map fun x=>(x.1,x.1)).map (·.1)) []).filter fun o=>!(memNat (((H.filter fun x=>Nat.blt x.1 100000).map fun x=>(x.1,x.1)).map (·.1)) o))=nw at hfd
 generalize hnn:nw++nestsOf S'.hs inNest (((H.filter fun x=>Nat.blt x.1 100000).map fun x=>(x.1,x.1))++nw)=nn at hfd
 split at hfd
 case h_2=>simp at hfd
 rename_i H' l ns hpk'
 have hpk:=packE_spec hpk'
 cases htop:((H.filter fun x=>Nat.blt x.1 100000).map fun x=>(x.1,x.1)).all (topOk H) with
 | false=>rw [htop] at hfd;simp at hfd
 | true =>
 rw [htop] at hfd
 simp only [cond_true,Option.some.injEq] at hfd
 subst hfd
 refine ⟨_,_,rfl,?_⟩
 rw [dec_enc _ hpk.fz]
 intro g vs hnt hE hsz hrel
 have htops:∀c x,Nat.blt c 100000=true→look H c=some x→(c,c)∈((H.filter fun x=>Nat.blt x.1 100000).map fun x=>(x.1,x.1))∧Nat.blt c 50000=false∧∀f p,x≠.arr f p:=by
  intro c x hc hx
  have hm:(c,c)∈((H.filter fun x=>Nat.blt x.1 100000).map fun x=>(x.1,x.1)):=List.mem_map.2 ⟨(c,x),List.mem_filter.2 ⟨look_mem _ _ _ hx,hc⟩,rfl⟩
  have h1:=List.all_eq_true.1 htop _ hm
  unfold topOk at h1
  simp only [hx] at h1
  cases x with
  | arr f p=>simp at h1
  | box f cs=>simp only [Bool.and_eq_true,Bool.not_eq_true'] at h1;exact ⟨hm,h1.2,by simp⟩
  | map f p=>simp only [Bool.and_eq_true,Bool.not_eq_true'] at h1;exact ⟨hm,h1.2,by simp⟩
 have hn':¬ fn.name="runtime.NumGoroutine" := by simpa using hn
 refine .inl ⟨by simp [callFunc,hf,hn',hb],calls_of_wp hf hb ?_⟩
 generalize hg1:({ g with top:=fun c=>bif Nat.blt c 100000&&(look H c).isSome then g.rho c else none }:Gh)=g1
 have hcx:(cxOf g1 H g.w0:Cx α)=cxOf g H g.w0:=by subst hg1;rfl
 have hget:∀t,RG X.C (cxOf g1 H g.w0) (vs++Array.replicate (fn.ntmps - vs.size) undef) ((vs++Array.replicate (fn.ntmps - vs.size) undef).getD t undef) (getT (ds++List.replicate (fn.ntmps - ds.length) .bad) t):=by
  intro t
  rw [getT_get,Array.getD_eq_getD_getElem?,Array.getElem?_append,List.getElem?_append]
  by_cases ht:t < vs.size
  ·rw [if_pos ht,if_pos (by omega)]
   have h1:vs[t]?=some vs[t]:=by simp [ht]
   have h2:ds[t]?=some (ds[t]'(by omega)):=by simp
   rw [h1,h2]
   simp only [Option.getD_some]
   rw [hcx]
   exact RG.of (hrel t _ _ h1 h2)
  ·rw [if_neg ht,if_neg (by omega),List.getElem?_replicate]
   split<;>exact .bad _
 have hS:Sim X g1 (ds++List.replicate (fn.ntmps - ds.length) .bad) H { tmps:=vs++Array.replicate (fn.ntmps - vs.size) undef,defers:=[] } g.w0:=by
  refine ⟨by simp;omega,hget,rfl,fun o ob ho=>?_,?_,?_,?_,?_,?_,fun c b hc=>?_,?_⟩
  ·rw [hcx]
   have:=hE.obs o ob ho
   subst hg1
   exact this
  ·subst hg1;exact hE.inj
  ·subst hg1;exact hE.own
  ·subst hg1;exact hE.below
  ·subst hg1;exact hE.av0
  ·subst hg1;exact hE.lav
  ·subst hg1
   simp only at hc
   cases hcc:Nat.blt c 100000&&(look H c).isSome with
   | false=>rw [hcc] at hc;simp at hc
   | true =>
   rw [hcc] at hc
   simp only [cond_true] at hc
   simp only [Bool.and_eq_true,Option.isSome_iff_exists] at hcc
   obtain ⟨h1,x,hx⟩:=hcc
   obtain ⟨_,h3,h4⟩:=htops c x h1 hx
   refine ⟨h3,h1,fun ob ho=>⟨hc,?_⟩⟩
   rw [hx] at ho
   simp only [Option.some.injEq] at ho
   subst ho
   exact h4
  ·subst hg1;exact hE.glob
 have hK:KeyIn (ds++List.replicate (fn.ntmps - ds.length) (.bad:D α)) (fun _=>False):=by
  intro t ks b e ht
  rw [getT_get,List.getElem?_append] at ht
  by_cases h':t < ds.length
  ·rw [if_pos h'] at ht
   have h1:vs[t]?=some (vs[t]'(by omega)):=by simp
   have h2:ds[t]?=some ds[t]:=by simp [h']
   rw [h2] at ht
   simp only [Option.getD_some] at ht
   have:=hrel t _ _ h1 h2
   rw [ht] at this
   exact this.noGd.elim
  ·rw [if_neg h',List.getElem?_replicate] at ht
   split at ht<;>simp at ht
 refine hgo g1 _ g.w0 hS hK _ fun rho' a' w' hS' hK'=>?_
 have hfin:a'.defers=[]∧∃v,(results fn a'.tmps).run X.P w'=.ok v w'∧∃v',Ending.returned v=.returned v'∧∃rho2,Sim (ctx0 X.P X.C X.glob) { g with rho:=rho2 } [] H' act0 w'∧RD X.C (cxOf { g with rho:=rho2 } H' w') v' (packR l) ∧
   ∀c ob,Nat.blt c 100000=true→look H c=some ob→rho2 c=g.rho c∧∃ob',look H' c=some ob'∧∀f p,ob'≠.arr f p:=by
  obtain ⟨hL1,hP⟩:=leave_env hX hS' hpk
  obtain ⟨ms,hms,hmn⟩:=hpk.args
  obtain ⟨hlen,hget⟩:=packAll_sound hX hS' hP rs l ms hms hmn
  obtain ⟨v,h1,h2⟩:=results_of hX hS' fn rs hrs hlen hget
  refine ⟨hS'.dfr,v,h1,v,rfl,rhoP (((H.filter fun x=>Nat.blt x.1 100000).map fun x=>(x.1,x.1))++nn) rho',?_,?_,fun c ob hc ho=>?_⟩
  ·subst hg1
   exact ⟨hL1.size,hL1.tm,hL1.dfr,hL1.obs,hL1.inj,hL1.own,hL1.below,hL1.av0,hL1.lav,fun c b hc=>by rw [hnt c] at hc;simp at hc,hL1.glob⟩
  ·subst hg1;exact h2
  ·obtain ⟨hm,h50,hna⟩:=htops c ob hc ho
   obtain ⟨b,hb'⟩:∃b,g.rho c=some b:=by
    have:=hE.obs c ob ho
    cases ob with
    | arr f p=>exact absurd rfl (hna f p)
    | box f cs=>obtain ⟨b,_,_,h,_⟩:=this;exact ⟨b,h⟩
    | map f p=>obtain ⟨b,_,_,h,_⟩:=this;exact ⟨b,h⟩
   have hm':=List.mem_append_left nn hm
   obtain ⟨ob1,x,n1,k1,k2,k3,_⟩:=hpk.im c c hm'
   obtain ⟨_,_,t3⟩:=hS'.top c b (by subst hg1;simp only [hc,ho,Option.isSome_some,Bool.and_self,cond_true];exact hb')
   obtain ⟨r1,r2⟩:=t3 ob1 k1
   obtain ⟨-,-,s1⟩:=packOb_kind k3
   exact ⟨(rhoP_mem hpk.d2 hm').trans (r1.trans hb'.symm),x,k2,bm_kind s1 r2⟩
 cases e with
 | normal=>exact hfin
 | exit id=>exact absurd rfl (hne id)
 | ret=>exact hfin
end Go.Eng
namespace Go.Proofs.YtcgbgcconigdbaaGreatDoor.Rd
open Go.Eng
set_option maxRecDepth 100000
noncomputable def stepO (R:Eng.Told Pl) (n:Nat) (names:List Nat) (ops:Array Oper) (i:Nat) (S:St Pl):Option (St Pl):=match ops[i]? with
 | some o=>runL X0 (callK X0 F0 R noTL n) ops i [o] S.tm S.hs [] [] (fun tm hs _ _=>some (ordS names ⟨tm,hs⟩))
 | none=>none
noncomputable def runB (R:Eng.Told Pl) (n:Nat) (names:List Nat) (ops:Array Oper) (k:Nat) (cu:St Pl→St Pl) (m:Nat) (S:St Pl):St Pl :=
 (List.range ops.size).foldl (fun S i=>bif m.testBit i then (bif Nat.beq i k then cu S else (stepO R n names ops i S).getD ⟨[],[]⟩) else S) S
theorem opO_goes {R:Eng.Told Pl} (h0:TOk R) {n:Nat} {names:List Nat} {ops:Array Oper} {i:Nat} {o:Oper} {S S':St Pl} (ho:ops[i]?=some o) (hgn:o.guard=none)
  (hst:stepO R n names ops i S=some S') {g:Gh} {a:Act} {w:World} (hS:Sim X0 g S.tm S.hs a w) (hK:KeyIn S.tm (fun _=>False)) {K:Act→World→Prop} {Q:Exit→Act→World→Prop}
  (h:∀rho' a' w',Sim X0 { g with rho:=rho' } S'.tm S'.hs a' w'→KeyIn S'.tm (fun _=>False)→K a' w'):wpOp X0.P ops Q i K a w:=by
 have hinh:Inhabited (St Pl):=⟨⟨[],[]⟩⟩
 have hR:ROk (X0.withR (semR X0 F0 R noTL (St Pl) n)):=by
  intro f' ds' b' d' hr hb
  have hr:semR X0 F0 R noTL (St Pl) n f' ds'=some (b',d'):=hr
  unfold semR at hr
  split at hr
  ·rename_i hex
   simp only [Option.some.injEq,Prod.mk.injEq] at hr
   rw [←hr.2]
   exact semOk xok fok h0 (noTL_ok _ _) n _ _ _ hex.choose_spec
  ·simp at hr
 have hX':=xok_withR xok (semR X0 F0 R noTL (St Pl) n)
 have hck:=ckOk (γ:=St Pl) X0 F0 R noTL n
 unfold stepO at hst
 rw [ho] at hst
 simp only at hst
 rw [←runL_withR (semR X0 F0 R noTL (St Pl) n)] at hst
 obtain ⟨T,H,W,wsN,lgN,hT,hH,hk,hst',_⟩:=trace _ _ hck ops _ _ [o] i _ _ _ _ hst
 have hstp:=hst' 0 o rfl
 simp only [List.length_singleton,Option.some.injEq] at hk
 rw [Nat.add_zero,hT,hH] at hstp
 refine astep_sound hX' hR ((sim_withR _).2 hS) ho hstp (K:=fun _=>False) (K':=fun _=>False) hK (fun _ h=>h) (fun _ _ h=>h) (fun j want s hg _ _=>?_) fun rho' a' w' hS' hK'=>?_
 ·rw [hgn] at hg;simp at hg
 ·obtain ⟨rho2,h1,h2⟩:=Weak.ord (X:=X0) names ⟨T (i+1),H (i+1)⟩ { g with rho:=rho' } a' w' ((sim_withR _).1 hS') hK'
  rw [hk] at h1 h2
  exact h rho2 a' w' h1 h2
theorem draw_goes {R:Eng.Told Pl} (hR:TOk R) {n id:Nat} {ops:Array Oper} {names tab:List Nat} {full k:Nat} {c:Bool} {F:Nat→St Pl} (hc:c=true) (ht:tabN ops tab full=true) (hg:ops.all (fun o=>o.guard.isNone)=true)
  (hst:(pairsN ops tab).map (fun q=>stepO R n names ops q.2 (F q.1))=(pairsN ops tab).map (fun q=>ck_ (bif Nat.beq q.2 k then c else true) (some (F (q.1+2 ^ q.2))))):Goes X0 (.region id ops true) (F 0) .normal (F full):=by
 intro g a w hS hK Q hQ
 refine wp_tabN xok.mixed tab full ht (fun m a w=>∃rho,Sim X0 { g with rho:=rho } (F m).tm (F m).hs a w∧KeyIn (F m).tm fun _=>False) (fun q hq a w hI K hK=>?_) (fun a w ⟨rho,h1,h2⟩=>hQ rho a w h1 h2) ⟨g.rho,hS.grow xok.pay ⟨rfl,rfl,rfl,Nat.le_refl _,fun _ _=>rfl,fun _=>Nat.le_succ _⟩,hK⟩
 obtain ⟨rho,h1,h2⟩:=hI
 have hlt:q.2 < ops.size:=by
  obtain ⟨m,hm,hx⟩:=List.mem_flatMap.1 hq
  obtain ⟨i,hi,rfl⟩:=List.mem_map.1 hx
  exact List.mem_range.1 (List.mem_filter.1 hi).1
 have he:=List.map_inj_left.1 hst q hq
 rw [hc] at he
 have he:stepO R n names ops q.2 (F q.1)=some (F (q.1+2 ^ q.2)):=by
  rw [he]
  cases Nat.beq q.2 k<;>rfl
 exact opO_goes hR (o:=ops[q.2]) (by simp [hlt]) (by simpa using (Array.all_eq_true'.1 hg) ops[q.2] (Array.getElem_mem hlt)) he h1 h2 fun rho' a' w' h3 h4=>hK a' w' ⟨rho',h3,h4⟩
abbrev GoesX (code:Code) (S:St Pl) (e:Ex) (S':St Pl):Prop:=Goes X0 code S e S'
theorem goes_seq {a b:Code} {S S1 S':St Pl} {e:Ex} (h1:GoesX a S .normal S1) (h2:GoesX b S1 e S'):GoesX (.seq a b) S e S' :=
 fun g ac w hS hK Q hQ=>wp_seq (h1 g ac w hS hK _ fun rho' a' w' hS' hK'=>h2 { g with rho:=rho' } a' w' hS' hK' Q fun rho'' a'' w''=>hQ rho'' a'' w'')
theorem goes_seqX {a b:Code} {S S':St Pl} {e:Ex} (h1:GoesX a S e S') (he:e≠.normal):GoesX (.seq a b) S e S':=by
 cases e with
 | normal=>exact absurd rfl he
 | exit id=>exact fun g ac w hS hK Q hQ=>wp_seq (h1 g ac w hS hK _ hQ)
 | ret=>exact fun g ac w hS hK Q hQ=>wp_seq (h1 g ac w hS hK _ hQ)
theorem goes_cond {c:Operand} {a b:Code} {S S':St Pl} {e:Ex} {t:Bool} (hv:evK X0 S.tm [] c=.bool t) (h:GoesX (if t then a else b) S e S'):GoesX (.cond c a b) S e S':=by
 intro g ac w hS hK Q hQ
 have hv':=evK_sound xok hS (ks:=[]) (fun k hk=>by simp at hk) c
 rw [hv] at hv'
 refine wp_cond (lit_eq hv') ?_
 cases t with
 | true=>exact h g ac w hS hK Q hQ
 | false=>exact h g ac w hS hK Q hQ
end Go.Proofs.YtcgbgcconigdbaaGreatDoor.Rd
