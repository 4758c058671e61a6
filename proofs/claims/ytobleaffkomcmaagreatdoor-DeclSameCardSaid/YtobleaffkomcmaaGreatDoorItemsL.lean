/-
  THE DOCUMENT's READER OF ITEMS: its loops walked; items from a place on, with so much fuel.
-/
import Derived.Test.YtobleaffkomcmaaGreatDoorItemsB
namespace Go.Proofs.YtobleaffkomcmaaGreatDoor
open Go.Eng
set_option maxRecDepth 100000
section
variable {β:Type}
def ixb (l:List TokR) (a:Int) (x:Option β):Option β:=bif (decide (0≤a)&&decide (a < (l.length:Int)))||false then x else none
def kdK (l:List TokR) (a k:Int) (x y:Option β):Option β:=ixg l a (decide (a < (l.length:Int))==true) (bif kdI l a k then x else y)
def dgK (l:List TokR) (a:Int) (x:Option β):Option β:=ck_ (decide (0≤a)&&Nat.blt 0 l.length) x
def ckA {γ:Type} [Inhabited γ] (c:Bool) (x:Option γ) (K:γ→Option β):Option β:=ck_ (c&&okP x) (K (prP x))
theorem ixb_t {l:List TokR} {a:Int} (h0:0≤a) (h1:a < (l.length:Int)) (x:Option β):ixb l a x=x:=by
  unfold ixb;rw [decide_eq_true h0,decide_eq_true h1];rfl
theorem kdK_t {l:List TokR} {a:Int} (h0:0≤a) (k:Int) (x y:Option β):kdK l a k x y=bif kdI l a k then x else y :=
  ixg_t (fun h=>⟨h0,by rw [beq_iff_eq] at h;exact of_decide_eq_true h⟩) _
theorem dgK_t {l:List TokR} {a:Int} (h0:0≤a) (h1:0 < l.length) (x:Option β):dgK l a x=x:=ck_t (by rw [decide_eq_true h0,blt_t h1];rfl) x
theorem ckA_eq {γ:Type} [Inhabited γ] {c:Bool} (h:c=true) (x:Option γ) (K:γ→Option β):ckA c x K=thn x K:=by subst h;cases x<;>rfl
end
theorem kdI_lt {l:List TokR} {a k:Int} (h:kdI l a k=true):a < (l.length:Int):=by
  unfold kdI at h
  cases hd:decide (a < lenI l) with
  | true=>exact of_decide_eq_true hd
  | false=>rw [hd] at h;cases h
theorem gI_of {l:List TokR} {a:Int} (h:gI l a=true):0≤a∧0 < l.length∧l.length≤big:=by
  unfold gI at h
  simp only [Bool.and_eq_true,Nat.blt_eq,Nat.ble_eq,decide_eq_true_eq] at h
  exact h
theorem w1I {l:List TokR} {a:Int} (h0:0≤a) (h1:a < (l.length:Int)) (h2:l.length≤big):w64 (a+1)=a+1:=by
  have:big=140737488355328:=rfl
  exact wrap_in _ (by omega)
theorem idsI:(loopsAt 28).length=3∧firstId (loopAt 28 0)=2∧firstId (loopAt 28 1)=8∧firstId (loopAt 28 2)=20∧loopsOf (loopAt 28 1)=[]∧loopsOf (loopAt 28 2)=[] ∧
    loopsOf (loopAt 28 0)=[loopAt 28 1,loopAt 28 2]:=⟨by kernel_rfl,by kernel_rfl,by kernel_rfl,by kernel_rfl,by kernel_rfl,by kernel_rfl,by kernel_rfl⟩
theorem bTw (l:List TokR) (A:Ats) (Q:Its) (out:List ItemR) (a:Int) (s:Str) (p:PosR) (i:Nat):evG (tIt A Q) noTL noL 1 (loopAt 28 1) fTw (sTw l out a s p i) =
  lt_ i out.length (ix_ i out.length (ixo_ i out.length ((!((out.getD i default).block))==true) (bif (bif !(out.getD i default).block then (out.getD i default).name==s else false) then dgK l a (some (.ret,sItR l a (dgM 10 l a))) else some (.normal,sTw l out a s p (w64 ((i:Int)+1)))))) (some (.exit 2,sTw l out a s p i)):=by kernel_rfl
def LSTw (S:St Pl):Option (Bool×LR Pl):=match seenS 199 [0,1,6,7,8,9] S with
  | some ([.pl ⟨.toks,l⟩ .any,.int .i64 a,.ptr 6 0,.arr 96,.ptr 8 0,.int .i64 (.ofNat 0)],[(8,.box false [.bool false,.str s,.nilS,.int .i64 (.ofNat 0),.str [],.str [],.int .i64 (.ofNat 0),.int .i64 (.ofNat 0),.str [],.nilS,.nilS,.int .i64 (.ofNat 0),.int .i64 (.ofNat 0),.bool false,.nilS,.int .i64 (.ofNat 0),.int .i64 (.ofNat 0),.int .i64 (.ofNat 0),.nilS,.int .i64 x,.int .i64 y,.int .i64 z]),(96,.arr false ⟨.items,out⟩),(6,.box false [.int .i64 (.ofNat 0),.int .i64 (.ofNat 0),.int .i64 (.ofNat 0),.int .i64 (.ofNat 0),.str []])]) =>
    some ((decide (0≤a)&&Nat.blt 0 l.length)&&Nat.ble out.length big,.ite (twI out s) (.leaf .ret (sItR l a (dgM 10 l a))) (.leaf (.exit 2) (sTw l out a s ⟨x,y,z⟩ out.length)))
  | _=>none
theorem LSTw_ok {A:Ats} {Q:Its} (hA:SndA A) (hQ:SndI Q):SOk X0 (loopAt 28 1) LSTw:=by
  intro S c r h hc
  unfold LSTw at h
  split at h
  · rename_i l a s x y z out hs
    simp only [Option.some.injEq,Prod.mk.injEq] at h
    obtain ⟨rfl,rfl⟩:=h
    simp only [Bool.and_eq_true,Nat.blt_eq,Nat.ble_eq,decide_eq_true_eq] at hc
    obtain ⟨⟨h0,hl⟩,hb⟩:=hc
    refine Goes.pre (keepOf [0,1,6,7,8,9]) ?_
    rw [seenS_mask hs]
    have key:=loop_search (X:=X0) (body:=loopAt 28 1) (Sf:=fun i=>sTw l out a s ⟨x,y,z⟩ i) (n:=out.length) (p:=fun i=>!(bif !(out.getD i default).block then (out.getD i default).name==s else false)) (e1:=.exit 2) (e2:=.ret)
      (S1:=sTw l out a s ⟨x,y,z⟩ out.length) (S2:=sItR l a (dgM 10 l a)) (by simp) (by simp) (fun i hi hp=>?_) (fun i hi hp=>?_) ?_
    · show Goes X0 _ _ (pickR (.ite (!((List.range out.length).all fun i=>!(bif !(out.getD i default).block then (out.getD i default).name==s else false))) _ _)).1 (pickR (.ite (!((List.range out.length).all fun i=>!(bif !(out.getD i default).block then (out.getD i default).name==s else false))) _ _)).2
      revert key
      cases ((List.range out.length).all fun i=>!(bif !(out.getD i default).block then (out.getD i default).name==s else false))<;>exact id
    · refine goes_ofG (tIt_ok hA hQ) (noTL_ok _ _) (finT_ok _ _ _) (noLoops idsI.2.2.2.2.1) ((bTw l A Q out a s ⟨x,y,z⟩ i).trans ?_)
      simp only [Bool.not_eq_true'] at hp
      rw [lt_t hi,ix_t hi,ixo_t hi,hp,show w64 ((i:Int)+1)=((i+1:Nat):Int) from wrap_nat (by omega)]
      rfl
    · refine goes_ofG (tIt_ok hA hQ) (noTL_ok _ _) (finT_ok _ _ _) (noLoops idsI.2.2.2.2.1) ((bTw l A Q out a s ⟨x,y,z⟩ i).trans ?_)
      simp only [Bool.not_eq_false'] at hp
      rw [lt_t hi,ix_t hi,ixo_t hi,hp,cond_true,dgK_t h0 hl]
    · exact goes_ofG (tIt_ok hA hQ) (noTL_ok _ _) (finT_ok _ _ _) (noLoops idsI.2.2.2.2.1) ((bTw l A Q out a s ⟨x,y,z⟩ out.length).trans (lt_f (by omega) _ _))
  · simp at h
def lbK (l:List TokR) (ls:List Str) (a:Int) (N:List Str→Int→Option (Ex×St Pl)) (R:Int→DgR→Option (Ex×St Pl)) (X:Option (Ex×St Pl)):Option (Ex×St Pl) :=
  kdK l a 3 (ixb l a (ixo_ 0 (tokI l a).parts.length (((((tokI l a).parts.length:Int)==1)==true)&&(decide (((tokI l a).parts.length:Int) > 1)==false)) (
    bif twoP (tokI l a).parts then dgK l a (R a (dgM 4 l a))
    else (bif ((tokI l a).parts.length:Int)==1 then ix_ 0 (tokI l a).parts.length (lbG l ls a ((tokI l a).parts.getD 0 default).s (fun o x K=>apK 16 o x K) N fun a d=>dgK l a (R a d))
      else lbG l ls a [] (fun o x K=>apK 16 o x K) N fun a d=>dgK l a (R a d))))) X
theorem bLb (l:List TokR) (A:Ats) (Q:Its) (out:List ItemR) (a:Int) (s:Str) (p:PosR) (ls:List Str):evG (tIt A Q) noTL noL 1 (loopAt 28 2) fLb (sLb l out a s p ls) =
  lbK l ls a (fun o a=>some (.normal,sLb l out a s p o)) (fun a d=>some (.ret,sItR l a d)) (some (.exit 4,sLb l out a s p ls)):=by kernel_rfl
def outLb (l:List TokR) (out:List ItemR) (s:Str) (p:PosR) (x:LB):Ex×St Pl:=bif x.bad then (.ret,sItR l x.a x.d) else (.exit 4,sLb l out x.a s p x.l)
theorem lb_rnd {A:Ats} {Q:Its} (hA:SndA A) (hQ:SndI Q) (l:List TokR) (out:List ItemR) (s:Str) (p:PosR) :
    ∀(m:Nat) (ls:List Str) (a:Int) (x:LB),lbL l m ls a=some x→Rnd (loopAt 28 2) (sLb l out a s p ls) (outLb l out s p x).1 (outLb l out s p x).2
  | 0,_,_,_,h=>by cases h
  | m+1,ls,a,x,h=>by
    have hbig:big=140737488355328:=rfl
    have step:=fun e S' (h:_=some (e,S'))=>goes_ofG (tIt_ok hA hQ) (noTL_ok _ _) (finT_ok _ _ _) (noLoops idsI.2.2.2.2.2.1) ((bLb l A Q out a s p ls).trans h)
    unfold lbL at h
    cases g:gI l a with
    | false=>rw [g] at h;cases h
    | true =>
    rw [g,cond_true] at h
    obtain ⟨h0,hl,h2⟩:=gI_of g
    unfold lbK at step
    unfold lbB at h
    rw [kdK_t h0] at step
    cases c1:kdI l a 3 with
    | false =>
      rw [c1] at h step
      obtain rfl:=Option.some.inj h
      exact .stop (by simp [outLb]) (step _ _ rfl)
    | true =>
    have h1:=kdI_lt c1
    rw [c1,cond_true] at h step
    rw [ixb_t h0 h1,show ∀(n:Nat) (y:Option (Ex×St Pl)),ixo_ 0 n ((((n:Int)==1)==true)&&(decide ((n:Int) > 1)==false)) y=y from fun n y=>by
      by_cases hn:n=1
      · subst hn;rfl
      · unfold ixo_;rw [show ((n:Int)==1)=false by rw [beq_eq_false_iff_ne];omega];simp] at step
    cases c2:twoP (tokI l a).parts with
    | true =>
      rw [c2] at h step
      obtain rfl:=Option.some.inj h
      simp only [cond_true,dgK_t h0 hl] at step
      exact .stop (by simp [outLb]) (step _ _ rfl)
    | false =>
    rw [c2,cond_false] at h step
    have val:∀t:Str,lbG l ls a t (fun o s K=>K (o++[s])) (lbL l m) (fun a d=>some ⟨[],a,true,d⟩)=some x →
        (∀e S',lbG l ls a t (fun o x K=>apK 16 o x K) (fun o a=>some (.normal,sLb l out a s p o)) (fun a d=>dgK l a (some (.ret,sItR l a d)))=some (e,S')→Goes X0 (loopAt 28 2) (sLb l out a s p ls) e S') →
        Rnd (loopAt 28 2) (sLb l out a s p ls) (outLb l out s p x).1 (outLb l out s p x).2:=by
      intro t h step
      unfold lbG at h step
      cases c3:decide ((ls.length:Int) ≥ 4) with
      | true =>
        rw [c3] at h step
        obtain rfl:=Option.some.inj h
        simp only [cond_true,dgK_t h0 hl] at step
        exact .stop (by simp [outLb]) (step _ _ rfl)
      | false =>
        rw [c3,cond_false] at h step
        have:=of_decide_eq_false c3
        simp only [apK_t (show (ls.length+1) * 16≤big by omega)] at step
        exact .step (step _ _ rfl) (lb_rnd hA hQ l out s p m _ _ x h)
    cases c4:((tokI l a).parts.length:Int)==1 with
    | true =>
      rw [c4] at h step
      have:(tokI l a).parts.length=1:=by rw [beq_iff_eq] at c4;omega
      simp only [cond_true,ix_t (show 0 < (tokI l a).parts.length by omega)] at step
      exact val _ h step
    | false=>rw [c4] at h step;exact val _ h step
def sLb0 (l:List TokR) (out:List ItemR) (a:Int) (s:Str) (p:PosR):St Pl:=mkS 199 [(0,.pl (pToks l) .any),(1,dI a),(6,.ptr 6 0),(7,.arr 96),(8,.ptr 8 0)] [(8,.box false (cIt true s .nilS p)),(96,.arr false (pItems out)),(6,.box false dz)]
theorem weakLb_eq (l:List TokR) (out:List ItemR) (a:Int) (s:Str) (p:PosR):nilsS X0.C [(.cell 8 2,155,pStrs [])] (sLb0 l out a s p)=sLb l out a s p []:=by kernel_rfl
theorem weakLb (l:List TokR) (out:List ItemR) (a:Int) (s:Str) (p:PosR):Weak X0 (sLb0 l out a s p) (sLb l out a s p []):=weakLb_eq l out a s p ▸ Weak.nils xok [(.cell 8 2,155,pStrs [])] (sLb0 l out a s p)
def LSLb (m:Nat) (S:St Pl):Option (Bool×LR Pl):=match seenS 199 [0,1,6,7,8] S with
  | some ([.pl ⟨.toks,l⟩ .any,.int .i64 a,.ptr 6 0,.arr 96,.ptr 8 0],[(8,.box false [.bool true,.str s,.nilS,.int .i64 (.ofNat 0),.str [],.str [],.int .i64 (.ofNat 0),.int .i64 (.ofNat 0),.str [],.nilS,.nilS,.int .i64 (.ofNat 0),.int .i64 (.ofNat 0),.bool false,.nilS,.int .i64 (.ofNat 0),.int .i64 (.ofNat 0),.int .i64 (.ofNat 0),.nilS,.int .i64 x,.int .i64 y,.int .i64 z]),(96,.arr false ⟨.items,out⟩),(6,.box false [.int .i64 (.ofNat 0),.int .i64 (.ofNat 0),.int .i64 (.ofNat 0),.int .i64 (.ofNat 0),.str []])]) =>
    some (decide (0≤a)&&okP (lbL l m [] a),.ite (prP (lbL l m [] a)).bad (.leaf .ret (sItR l (prP (lbL l m [] a)).a (prP (lbL l m [] a)).d)) (.leaf (.exit 4) (sLb l out (prP (lbL l m [] a)).a s ⟨x,y,z⟩ (prP (lbL l m [] a)).l)))
  | _=>none
theorem LSLb_ok {A:Ats} {Q:Its} (hA:SndA A) (hQ:SndI Q) (m:Nat):SOk X0 (loopAt 28 2) (LSLb m):=by
  intro S c r h hc
  unfold LSLb at h
  split at h
  · rename_i l a s x y z out hs
    simp only [Option.some.injEq,Prod.mk.injEq] at h
    obtain ⟨rfl,rfl⟩:=h
    rw [Bool.and_eq_true] at hc
    refine Goes.pre (keepOf [0,1,6,7,8]) ?_
    rw [seenS_mask hs]
    refine Goes.weakPre (weakLb l out a s ⟨x,y,z⟩) ?_
    have:=(lb_rnd hA hQ l out s ⟨x,y,z⟩ m [] a _ (okP_some hc.2)).goes
    revert this
    unfold outLb
    cases hb:(prP (lbL l m [] a)).bad<;>exact id
  · simp at h
def lIt (m:Nat):LK Pl:=atL 8 LSTw (atL 20 (LSLb m) noL)
theorem lIt_ok {A:Ats} {Q:Its} (hA:SndA A) (hQ:SndI Q) (m:Nat):∀b∈loopsOf (loopAt 28 0),LoopOk X0 (lIt m) b:=by
  rw [idsI.2.2.2.2.2.2]
  intro b hb
  simp only [List.mem_cons,List.not_mem_nil,or_false] at hb
  rcases hb with rfl | rfl
  · exact atL_ok (fun _=>LSTw_ok hA hQ) fun h=>absurd idsI.2.2.1 h
  · exact atL_ok (fun h=>absurd (idsI.2.2.2.1.symm.trans h) (by decide)) fun _=>atL_ok (fun _=>LSLb_ok hA hQ m) fun h=>absurd idsI.2.2.2.1 h
def etaI (x:ItemR):ItemR:=⟨x.block,x.name,x.labels,⟨x.e.op,x.e.s,x.e.s2,etaV x.e.v,x.e.l,etaP x.e.p⟩,x.items,etaP x.p⟩
theorem etaI_eq (x:ItemR):etaI x=x:=by
  obtain ⟨b,n,ls,⟨op,s,s2,⟨k,i,vs,vl,ks,tk,tof,sec⟩,l,ep⟩,y,p⟩:=x
  rfl
def apI {β:Type} (o:List ItemR) (x:ItemR) (k:List ItemR→Option β):Option β:=apK 288 o (etaI x) k
def itK (l:List TokR) (out:List ItemR) (a:Int) (A:Int→Option AR) (Q:Int→Option PI) (m:Nat)
    (N:List ItemR→Int→Option (Ex×St Pl)) (R:Int→DgR→Option (Ex×St Pl)) (X:Option (Ex×St Pl)):Option (Ex×St Pl) :=
  kdK l a 1 (ixb l a (ixb l a (
    bif decide ((out.length:Int) ≥ 128) then dgK l a (R a (dgM 3 l a))
    else ck_ (decide (0≤w64 (a+1))) (bif sgI l (w64 (a+1)) [61] then ck_ ((decide (0≤a)&&Nat.blt 0 l.length)&&Nat.ble out.length big) (bif twI out (tokI l a).s then R a (dgM 10 l a)
      else ckP (A (w64 (a+2))) fun r=>bif r.d.c != 0 then R a r.d else apI out ⟨false,(tokI l a).s,[],r.e,[],(tokI l a).p⟩ fun o=>N o r.a)
    else (ckA (decide (0≤w64 (a+1))) (lbL l m [] (w64 (a+1))) fun x=>bif x.bad then R x.a x.d else ck_ (decide (0≤x.a)) (bif !(sgI l x.a [123]) then dgK l x.a (R x.a (dgM 4 l x.a))
      else ckP (Q (w64 (x.a+1))) fun y=>bif y.d.c != 0 then R x.a y.d else ck_ (decide (0≤y.a)) (bif !(sgI l y.a [125]) then dgK l y.a (R x.a (dgM 4 l y.a))
        else apI out ⟨true,(tokI l a).s,x.l,e00,y.l,(tokI l a).p⟩ fun o=>N o (w64 (y.a+1))))))))) X
theorem bIt (l:List TokR) (A:Ats) (Q:Its) (out:List ItemR) (a:Int) (m:Nat):evG (tIt A Q) noTL (lIt m) 1 (loopAt 28 0) fIt (sIt l out a) =
  itK l out a (A l) (Q l) m (fun o a=>some (.normal,sIt l o a)) (fun a d=>some (.ret,sItR l a d)) (some (.exit 0,sIt l out a)):=by kernel_rfl
def outIt (l:List TokR) (x:Bool×PI):Ex×St Pl:=bif x.1 then (.ret,sItR l x.2.a x.2.d) else (.exit 0,sIt l x.2.l x.2.a)
theorem thA_some {γ β:Type} {f:γ→Int} {x:Option γ} {K:γ→Option β} {r:β} (h:thA f x K=some r):∃y,x=some y∧0≤f y∧K y=some r:=by
  cases x with
  | none=>cases h
  | some y =>
    unfold thA thn at h
    simp only at h
    cases hd:decide (0≤f y) with
    | false=>rw [hd] at h;cases h
    | true=>rw [hd] at h;exact ⟨y,rfl,of_decide_eq_true hd,h⟩
theorem it_rnd {A:Ats} {Q:Its} (hA:SndA A) (hQ:SndI Q) (l:List TokR) (m:Nat) :
    ∀(k:Nat) (out:List ItemR) (a:Int) (x:Bool×PI),itL l (A l) (Q l) m k out a=some x→Rnd (loopAt 28 0) (sIt l out a) (outIt l x).1 (outIt l x).2
  | 0,_,_,_,h=>by cases h
  | k+1,out,a,x,h=>by
    have hbig:big=140737488355328:=rfl
    have step:=fun e S' (h:_=some (e,S'))=>goes_ofG (tIt_ok hA hQ) (noTL_ok _ _) (finT_ok _ _ _) (lIt_ok hA hQ m) ((bIt l A Q out a m).trans h)
    unfold itL at h
    cases g:gI l a with
    | false=>rw [g] at h;cases h
    | true =>
    rw [g,cond_true] at h
    obtain ⟨h0,hl,h2⟩:=gI_of g
    unfold itK at step
    unfold itB at h
    rw [kdK_t h0] at step
    have stop:∀y:Bool×PI,some y=some x→Goes X0 (loopAt 28 0) (sIt l out a) (outIt l y).1 (outIt l y).2→Rnd (loopAt 28 0) (sIt l out a) (outIt l x).1 (outIt l x).2:=by
      intro y hy hg
      obtain rfl:=Option.some.inj hy
      refine .stop ?_ hg
      unfold outIt
      cases y.1<;>simp
    cases c1:kdI l a 1 with
    | false=>rw [c1] at h step;exact stop _ h (step _ _ rfl)
    | true =>
    have h1:=kdI_lt c1
    have hw1:=w1I h0 h1 h2
    rw [c1,cond_true] at h step
    rw [ixb_t h0 h1,ixb_t h0 h1,ck_t (by rw [hw1];exact decide_eq_true (by omega))] at step
    cases c2:decide ((out.length:Int) ≥ 128) with
    | true =>
      rw [c2] at h step
      simp only [cond_true,dgK_t h0 hl] at step
      exact stop _ h (step _ _ rfl)
    | false =>
    rw [c2,cond_false] at h step
    have ho:(out.length:Int) < 128:=by have:=of_decide_eq_false c2;omega
    have hap:∀(x:ItemR) (k:List ItemR→Option (Ex×St Pl)),apI out x k=k (out++[x]):=by
      intro x k
      unfold apI
      rw [apK_t (by omega),etaI_eq]
    simp only [hap] at step
    cases c3:sgI l (w64 (a+1)) [61] with
    | true =>
      rw [c3,cond_true] at h step
      rw [ck_t (by rw [decide_eq_true h0,blt_t hl,ble_t (by omega)];rfl)] at step
      cases c4:twI out (tokI l a).s with
      | true=>rw [c4] at h step;exact stop _ h (step _ _ rfl)
      | false =>
      rw [c4,cond_false] at h step
      simp only [ckP_eq] at step
      dsimp only at h
      cases hx:A l (w64 (a+2)) with
      | none=>rw [hx] at h;cases h
      | some r =>
      rw [hx] at h step
      simp only [thn] at h step
      cases c5:r.d.c != 0 with
      | true=>rw [c5] at h step;exact stop _ h (step _ _ rfl)
      | false =>
        rw [c5,cond_false] at h step
        exact .step (step _ _ rfl) (it_rnd hA hQ l m k _ _ x h)
    | false =>
    rw [c3,cond_false] at h step
    obtain ⟨y,e1,y0,h⟩:=thA_some h
    rw [ckA_eq (by rw [hw1];exact decide_eq_true (by omega)),e1] at step
    simp only [thn] at step
    cases c4:y.bad with
    | true=>rw [c4] at h step;exact stop _ h (step _ _ rfl)
    | false =>
    rw [c4,cond_false] at h step
    rw [ck_t (decide_eq_true y0)] at step
    cases c5:!(sgI l y.a [123]) with
    | true =>
      rw [c5] at h step
      simp only [cond_true,dgK_t y0 hl] at step
      exact stop _ h (step _ _ rfl)
    | false =>
    rw [c5,cond_false] at h step
    obtain ⟨z,e2,z0,h⟩:=thA_some h
    rw [ckP_eq,e2] at step
    simp only [thn] at step
    cases c6:z.d.c != 0 with
    | true=>rw [c6] at h step;exact stop _ h (step _ _ rfl)
    | false =>
    rw [c6,cond_false] at h step
    rw [ck_t (decide_eq_true z0)] at step
    cases c7:!(sgI l z.a [125]) with
    | true =>
      rw [c7] at h step
      simp only [cond_true,dgK_t z0 hl] at step
      exact stop _ h (step _ _ rfl)
    | false =>
      rw [c7,cond_false] at h step
      exact .step (step _ _ rfl) (it_rnd hA hQ l m k _ _ x h)
def sIt0 (l:List TokR) (a:Int):St Pl:=mkS 199 [(0,.pl (pToks l) .any),(1,dI a),(6,.ptr 6 0),(7,.nilS)] [(6,.box false dz)]
theorem weakIt_eq (l:List TokR) (a:Int):nilsS X0.C [(.slot 7,96,pItems [])] (sIt0 l a)=sIt l [] a:=by kernel_rfl
theorem weakIt (l:List TokR) (a:Int):Weak X0 (sIt0 l a) (sIt l [] a):=weakIt_eq l a ▸ Weak.nils xok [(.slot 7,96,pItems [])] (sIt0 l a)
def LSIt (A:Ats) (Q:Its) (m:Nat) (S:St Pl):Option (Bool×LR Pl):=match seenS 199 [0,1,6,7] S with
  | some ([.pl ⟨.toks,l⟩ .any,.int .i64 a,.ptr 6 0,.nilS],[(6,.box false [.int .i64 (.ofNat 0),.int .i64 (.ofNat 0),.int .i64 (.ofNat 0),.int .i64 (.ofNat 0),.str []])]) =>
    some (okP (itL l (A l) (Q l) m m [] a),.ite (prP (itL l (A l) (Q l) m m [] a)).1 (.leaf .ret (sItR l (prP (itL l (A l) (Q l) m m [] a)).2.a (prP (itL l (A l) (Q l) m m [] a)).2.d)) (.leaf (.exit 0) (sIt l (prP (itL l (A l) (Q l) m m [] a)).2.l (prP (itL l (A l) (Q l) m m [] a)).2.a)))
  | _=>none
theorem LSIt_ok {A:Ats} {Q:Its} (hA:SndA A) (hQ:SndI Q) (m:Nat):SOk X0 (loopAt 28 0) (LSIt A Q m):=by
  intro S c r h hc
  unfold LSIt at h
  split at h
  · rename_i l a hs
    simp only [Option.some.injEq,Prod.mk.injEq] at h
    obtain ⟨rfl,rfl⟩:=h
    refine Goes.pre (keepOf [0,1,6,7]) ?_
    rw [seenS_mask hs]
    refine Goes.weakPre (weakIt l a) ?_
    have:=(it_rnd hA hQ l m m [] a _ (okP_some hc)).goes
    revert this
    unfold outIt
    cases hb:(prP (itL l (A l) (Q l) m m [] a)).1<;>exact id
  · simp at h
theorem eIt (l:List TokR) (A:Ats) (Q:Its) (m:Nat) (a:Int):evF (tIt A Q) noTL (atL 2 (LSIt A Q m) (lIt m)) 1 Tryz.f28 [.pl (pToks l) .any,dI a] =
    ckP (itL l (A l) (Q l) m m [] a) fun x=>bif x.1 then some (.tup [.nilS,dI x.2.a,.agg (cDg x.2.d.c x.2.d.p)]) else some (.tup [.pl (pItems x.2.l) .any,dI x.2.a,.agg dz]):=by kernel_rfl
theorem itL_inv {l:List TokR} {A:Int→Option AR} {Q:Int→Option PI} {m:Nat}:∀(k:Nat) (out:List ItemR) (a:Int) (x:Bool×PI),itL l A Q m k out a=some x→(x.1=true→x.2.l=[])∧(x.1=false→x.2.d=dg0)
  | 0,_,_,_,h=>by cases h
  | k+1,out,a,x,h=>by
    unfold itL at h
    cases g:gI l a with
    | false=>rw [g] at h;cases h
    | true =>
    rw [g,cond_true] at h
    unfold itB at h
    have bad:∀(b:Int) (d:DgR),some ((true,⟨[],b,d⟩):Bool×PI)=some x→(x.1=true→x.2.l=[])∧(x.1=false→x.2.d=dg0):=by
      intro b d h
      obtain rfl:=Option.some.inj h
      exact ⟨fun _=>rfl,fun h=>by cases h⟩
    cases c1:kdI l a 1 with
    | false=>rw [c1] at h;obtain rfl:=Option.some.inj h;exact ⟨fun h=>by (cases h),fun _=>rfl⟩
    | true =>
    rw [c1,cond_true] at h
    cases c2:decide ((out.length:Int) ≥ 128) with
    | true=>rw [c2] at h;exact bad _ _ h
    | false =>
    rw [c2,cond_false] at h
    cases c3:sgI l (w64 (a+1)) [61] with
    | true =>
      rw [c3,cond_true] at h
      cases c4:twI out (tokI l a).s with
      | true=>rw [c4] at h;exact bad _ _ h
      | false =>
      rw [c4,cond_false] at h
      dsimp only at h
      cases hx:A (w64 (a+2)) with
      | none=>rw [hx] at h;cases h
      | some r =>
      rw [hx] at h
      simp only [thn] at h
      cases c5:r.d.c != 0 with
      | true=>rw [c5] at h;exact bad _ _ h
      | false=>rw [c5,cond_false] at h;exact itL_inv k _ _ x h
    | false =>
    rw [c3,cond_false] at h
    obtain ⟨y,e1,y0,h⟩:=thA_some h
    cases c4:y.bad with
    | true=>rw [c4] at h;exact bad _ _ h
    | false =>
    rw [c4,cond_false] at h
    cases c5:!(sgI l y.a [123]) with
    | true=>rw [c5] at h;exact bad _ _ h
    | false =>
    rw [c5,cond_false] at h
    obtain ⟨z,e2,z0,h⟩:=thA_some h
    cases c6:z.d.c != 0 with
    | true=>rw [c6] at h;exact bad _ _ h
    | false =>
    rw [c6,cond_false] at h
    cases c7:!(sgI l z.a [125]) with
    | true=>rw [c7] at h;exact bad _ _ h
    | false=>rw [c7,cond_false] at h;exact itL_inv k _ _ x h
theorem it_sound {A:Ats} (hA:SndA A):∀n:Nat,SndI fun l a=>itM l (A l) n a
  | 0=>fun _ _ _ h=>by cases h
  | n+1=>by
    intro l a r h
    have hQ:=it_sound hA n
    change (itL l (A l) (itM l (A l) n) n n [] a).map (·.2)=some r at h
    have hLs:∀i,i < (loopsAt 28).length→LoopOk X0 (atL 2 (LSIt A (fun l a=>itM l (A l) n a) n) (lIt n)) (loopAt 28 i):=by
      intro i hi
      rw [idsI.1] at hi
      match i,hi with
      | 0,_=>exact atL_ok (fun _=>LSIt_ok hA hQ n) fun h=>absurd idsI.2.1 h
      | 1,_=>exact atL_ok (fun h=>absurd (idsI.2.2.1.symm.trans h) (by decide)) fun _=>atL_ok (fun _=>LSTw_ok hA hQ) fun h=>absurd idsI.2.2.1 h
      | 2,_=>exact atL_ok (fun h=>absurd (idsI.2.2.2.1.symm.trans h) (by decide)) fun _=>atL_ok (fun h=>absurd (idsI.2.2.2.1.symm.trans h) (by decide)) fun _=>atL_ok (fun _=>LSLb_ok hA hQ n) fun h=>absurd idsI.2.2.2.1 h
    have go:=fun {d} (h:_=some d)=>snd_fn (n:=1) (tIt_ok hA hQ) (noTL_ok _ _) (f:=28) (fn:=Tryz.f28) (by kernel_rfl) (loops_of (f:=28) (fn:=Tryz.f28) (by kernel_rfl) hLs) ((eIt l A (fun l a=>itM l (A l) n a) n a).trans h)
    rw [ckP_eq] at go
    cases hx:itL l (A l) (itM l (A l) n) n n [] a with
    | none=>rw [hx] at h;cases h
    | some x =>
      rw [hx] at h
      change _=some r at h
      rw [hx] at go
      simp only [thn] at go
      obtain ⟨i1,i2⟩:=itL_inv n [] a x hx
      obtain ⟨f,y⟩:=x
      obtain rfl:=Option.some.inj h
      cases f with
      | true =>
        have hnil:y.l=[]:=i1 rfl
        refine (go rfl).post (RDle.tup (.cons ?_ (RDles.refl _)))
        rw [hnil]
        exact RDle.of (.nil _ rfl)
      | false =>
        have hz:y.d=dg0:=i2 rfl
        have:=go rfl
        unfold encPI
        rw [hz]
        exact this
end Go.Proofs.YtobleaffkomcmaaGreatDoor
