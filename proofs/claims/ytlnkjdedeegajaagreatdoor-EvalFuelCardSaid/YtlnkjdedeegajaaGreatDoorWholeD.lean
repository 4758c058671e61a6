/-
  THE DOCUMENT's READER: a string's tree by its contract; the expression that a text is; Parse.
-/
import Derived.Test.YtlnkjdedeegajaaGreatDoorReadD
namespace Go.Proofs.YtlnkjdedeegajaaGreatDoor
open Go.Eng
set_option maxRecDepth 100000
def dBad:List (D Pl)→Option BadR
  | [.bool is,.int .i64 c,.int .i64 x,.int .i64 y,.int .i64 z,.str []]=>some ⟨is,c,⟨x,y,z⟩⟩
  | _=>none
theorem dBad_eq {cs:List (D Pl)} {b:BadR} (h:dBad cs=some b):cs=cBad b:=by
  unfold dBad at h
  split at h
  · simp only [Option.some.injEq] at h;subst h;rfl
  · simp at h
def xExpr:List (D Pl)→Option ExprR
  | [.int .i64 op,.str s,.str s2,.int .i64 k,.int .i64 i,.str vs,.pl ⟨.vals,l⟩ .any,.pl ⟨.strs,ks⟩ .any,.int .i64 tk,.int .i64 tof,.bool sec,.pl ⟨.exprs,x⟩ .any,.int .i64 a,.int .i64 b,.int .i64 c]=>some ⟨op,s,s2,⟨k,i,vs,l,ks,tk,tof,sec⟩,x,⟨a,b,c⟩⟩
  | _=>none
theorem xExpr_eq {cs:List (D Pl)} {e:ExprR} (h:xExpr cs=some e):cs=cExpr e:=by
  unfold xExpr at h
  split at h
  · simp only [Option.some.injEq] at h;subst h;rfl
  · simp at h
def etaB (b:BadR):BadR:=⟨b.is,b.c,etaP b.p⟩
def etaR (r:PR):PR:=⟨etaE r.e,r.a,etaB r.b⟩
theorem etaR_eq (r:PR):etaR r=r:=by
  obtain ⟨e,a,b⟩:=r
  show (⟨etaE e,a,b⟩:PR)=_
  rw [etaE_eq]
theorem bLv (l:List TokR) (P:List TokR→Reads) (C D:Conds) (r:PR):∀lv,1≤lv→lv≤5→evZ (tRr P C D) noTL noL 2 (loopAt 13 0) FRd (sRd l lv r)=lvB etaE etaT l lv r (dk (P l)) (fun r=>some (.normal,sRd l lv r)) (fun r=>some (.exit 0,sRd l lv r))
  | 0,h,_=>by omega
  | 1,_,_=>by kernel_rfl
  | 2,_,_=>by kernel_rfl
  | 3,_,_=>by kernel_rfl
  | 4,_,_=>by kernel_rfl
  | 5,_,_=>by kernel_rfl
  | _+6,_,h=>by omega
theorem idsR:(loopsAt 13).length=1∧firstId (loopAt 13 0)=17∧loopsOf (loopAt 13 0)=[]:=⟨by kernel_rfl,by kernel_rfl,by kernel_rfl⟩
theorem etaE_fun:etaE=id:=funext etaE_eq
theorem etaT_fun:etaT=id:=funext etaT_eq
theorem lvl_rnd {P:List TokR→Reads} {C D:Conds} (hP:SndP P) (hC:SndC 27 C) (hD:SndC 28 D) (l:List TokR) (lv:Nat) (h1:1≤lv) (h2:lv≤5) :
    ∀(m:Nat) (r r':PR),lvL l lv (P l) m r=some r'→Rnd (loopAt 13 0) (sRd l lv r) (.exit 0) (sRd l lv r')
  | 0,_,_,h=>by cases h
  | m+1,r,r',h=>by
    have step:=fun e S' (h:_=some (e,S'))=>goes_ofZ (tRr_ok hP hC hD) (noTL_ok _ _) (noLoops idsR.2.2) ((bLv l P C D r lv h1 h2).trans h)
    rw [etaE_fun,etaT_fun] at step
    unfold lvL at h
    unfold lvB at h step
    cases c1:(!r.b.is)==true with
    | false =>
      rw [c1] at h step
      obtain rfl:=Option.some.inj h
      exact .stop (by simp) (step _ _ rfl)
    | true =>
      rw [c1,cond_true] at h step
      cases c2:decide (opA lv (tokA l r.a) > 0) with
      | false =>
        rw [c2] at h
        rw [c2] at step
        obtain rfl:=Option.some.inj h
        exact .stop (by simp) (step _ _ rfl)
      | true =>
        rw [c2,cond_true] at h
        rw [c2,cond_true] at step
        unfold dk at step
        unfold dp at h
        simp only [ckP_eq] at step
        cases hx:P l (lv+1) (w64 (r.a+1)) with
        | none=>rw [hx] at h;cases h
        | some x =>
          rw [hx] at h step
          simp only [thn] at h step
          cases c3:Nat.beq lv 3 with
          | true =>
            rw [c3] at h step
            obtain rfl:=Option.some.inj h
            exact .stop (by simp) (step _ _ rfl)
          | false =>
            rw [c3] at h step
            exact .step (step _ _ rfl) (lvl_rnd hP hC hD l lv h1 h2 m _ r' h)
def LSRd (P:List TokR→Reads) (m:Nat) (S:St Pl):Option (Bool×LR Pl):=match seenS 120 [0,1,2,6,7,8,14,15] S with
  | some ([.pl ⟨.toks,l⟩ .any,.int .i64 a,.int .i64 (.ofNat lv),.ptr 6 0,.int .i64 (.ofNat 0),.ptr 8 0,.ptr 14 0,.ptr 15 0],[(15,.box false cb),(14,.box false ce),(8,.box false [.bool false,.int .i64 (.ofNat 0),.int .i64 (.ofNat 0),.int .i64 (.ofNat 0),.int .i64 (.ofNat 0),.str []]),(6,.box false [.int .i64 (.ofNat 0),.str [],.str [],.int .i64 (.ofNat 0),.int .i64 (.ofNat 0),.str [],.nilS,.nilS,.int .i64 (.ofNat 0),.int .i64 (.ofNat 0),.bool false,.nilS,.int .i64 (.ofNat 0),.int .i64 (.ofNat 0),.int .i64 (.ofNat 0)])]) =>
    (match xExpr ce,dBad cb with
    | some e,some b=>some ((Nat.ble 1 lv&&Nat.ble lv 5)&&okP (lvL l lv (P l) m ⟨e,a,b⟩),.leaf (.exit 0) (sRd l lv (prP (lvL l lv (P l) m ⟨e,a,b⟩))))
    | _,_=>none)
  | _=>none
theorem LSRd_ok {P:List TokR→Reads} {C D:Conds} (hP:SndP P) (hC:SndC 27 C) (hD:SndC 28 D) (m:Nat):SOk X0 (loopAt 13 0) (LSRd P m):=by
  intro S c r h hc
  unfold LSRd at h
  split at h
  · rename_i l a lv cb ce hs
    split at h
    · rename_i e b h1 h2
      simp only [Option.some.injEq,Prod.mk.injEq] at h
      obtain ⟨rfl,rfl⟩:=h
      rw [Bool.and_eq_true,Bool.and_eq_true,Nat.ble_eq,Nat.ble_eq] at hc
      rw [xExpr_eq h1,dBad_eq h2] at hs
      refine Goes.pre (keepOf [0,1,2,6,7,8,14,15]) ?_
      rw [seenS_mask hs]
      exact (lvl_rnd hP hC hD l lv hc.1.1 hc.1.2 m ⟨e,a,b⟩ _ (okP_some hc.2)).goes
    · simp at h
  · simp at h
theorem eRd0 (l:List TokR) (P:List TokR→Reads) (C D:Conds) (a:Int):evF (tRr P C D) noTL noL 2 Tryz.f13 [.pl (pToks l) .any,dI a,dI 0]=ckP (C l a) fun r=>some (encPR r):=by kernel_rfl
theorem eRd7 (l:List TokR) (P:List TokR→Reads) (C D:Conds) (a:Int):evF (tRr P C D) noTL noL 2 Tryz.f13 [.pl (pToks l) .any,dI a,dI 7]=ckP (D l a) fun r=>some (encPR r):=by kernel_rfl
theorem eRd6 (l:List TokR) (P:List TokR→Reads) (C D:Conds) (a:Int):evF (tRr P C D) noTL noL 2 Tryz.f13 [.pl (pToks l) .any,dI a,dI 6]=unX l a (dk (P l)) OD:=by kernel_rfl
theorem eRdL (l:List TokR) (P:List TokR→Reads) (C D:Conds) (m:Nat) (a:Int):∀lv:Nat,1≤lv→lv≤5→evF (tRr P C D) noTL (atL 17 (LSRd P m) noL) 2 Tryz.f13 [.pl (pToks l) .any,dI a,dI (lv:Nat)] =
    ckP (P l (lv+1) a) fun r=>ckP (lvL l lv (P l) m (etaR r)) fun r=>some (encPR r)
  | 0,h,_=>by omega
  | 1,_,_=>by kernel_rfl
  | 2,_,_=>by kernel_rfl
  | 3,_,_=>by kernel_rfl
  | 4,_,_=>by kernel_rfl
  | 5,_,_=>by kernel_rfl
  | _+6,_,h=>by omega
theorem bPs (l:List TokR) (P:List TokR→Reads) (C:Conds) (r:PR):evY (tPo P C) noTL noL 2 (loopAt 28 0) FPs FPsR (sPs l r) =
    postB etaE l r (dk (P l)) (fun r=>some (.normal,sPs l r)) (fun r'=>some (.ret,sPsR l r')) (fun r=>some (.exit 0,sPs l r)):=by kernel_rfl
theorem idsPs:(loopsAt 28).length=1∧firstId (loopAt 28 0)=2∧loopsOf (loopAt 28 0)=[]:=⟨by kernel_rfl,by kernel_rfl,by kernel_rfl⟩
def outPs (l:List TokR) (x:Bool×PR):Ex×St Pl:=bif x.1 then (.ret,sPsR l x.2) else (.exit 0,sPs l x.2)
theorem post_rnd {P:List TokR→Reads} {C:Conds} (hP:SndP P) (hC:SndC 49 C) (l:List TokR) :
    ∀(m:Nat) (r:PR) (x:Bool×PR),postL l (P l) m r=some x→Rnd (loopAt 28 0) (sPs l r) (outPs l x).1 (outPs l x).2
  | 0,_,_,h=>by cases h
  | m+1,r,x,h=>by
    have step:=fun e S' (h:_=some (e,S'))=>goes_ofY (tPo_ok hP hC) (noTL_ok _ _) (noLoops idsPs.2.2) ((bPs l P C r).trans h)
    rw [etaE_fun] at step
    unfold postL at h
    unfold postB at h step
    have stop:∀y:Bool×PR,some y=some x→Goes X0 (loopAt 28 0) (sPs l r) (outPs l y).1 (outPs l y).2→Rnd (loopAt 28 0) (sPs l r) (outPs l x).1 (outPs l x).2:=by
      intro y hy hg
      obtain rfl:=Option.some.inj hy
      refine .stop ?_ hg
      unfold outPs
      cases y.1<;>simp
    cases c1:!r.b.is with
    | false=>rw [c1] at h step;exact stop _ h (step _ _ rfl)
    | true =>
    rw [c1,cond_true] at h step
    cases c2:sgA l r.a [46] with
    | true =>
      rw [c2,cond_true] at h step
      cases c3:(tokA l (w64 (r.a+1))).kind != 1 with
      | true=>rw [c3] at h step;exact stop _ h (step _ _ rfl)
      | false=>rw [c3] at h step;exact .step (step _ _ rfl) (post_rnd hP hC l m _ x h)
    | false =>
    rw [c2,cond_false] at h step
    cases c4:!(sgA l r.a [91]) with
    | true=>rw [c4] at h step;exact stop _ h (step _ _ rfl)
    | false =>
    rw [c4,cond_false] at h step
    unfold dk at step
    unfold dp at h
    simp only [ckP_eq] at step
    cases hx:P l 0 (w64 (r.a+1)) with
    | none=>rw [hx] at h;cases h
    | some y =>
    rw [hx] at h step
    simp only [thn] at h step
    cases c5:y.b.is with
    | true=>rw [c5] at h step;exact stop _ h (step _ _ rfl)
    | false =>
    rw [c5,cond_false] at h step
    cases c6:!(sgA l y.a [93]) with
    | true=>rw [c6] at h step;exact stop _ h (step _ _ rfl)
    | false=>rw [c6] at h step;exact .step (step _ _ rfl) (post_rnd hP hC l m _ x h)
def LSPs (P:List TokR→Reads) (m:Nat) (S:St Pl):Option (Bool×LR Pl):=match seenS 91 [0,1,4,5,6,7,8] S with
  | some ([.pl ⟨.toks,l⟩ .any,.int .i64 a,.ptr 4 0,.int .i64 (.ofNat 0),.ptr 6 0,.ptr 7 0,.ptr 8 0],[(8,.box false cb),(7,.box false ce),(6,.box false [.bool false,.int .i64 (.ofNat 0),.int .i64 (.ofNat 0),.int .i64 (.ofNat 0),.int .i64 (.ofNat 0),.str []]),(4,.box false [.int .i64 (.ofNat 0),.str [],.str [],.int .i64 (.ofNat 0),.int .i64 (.ofNat 0),.str [],.nilS,.nilS,.int .i64 (.ofNat 0),.int .i64 (.ofNat 0),.bool false,.nilS,.int .i64 (.ofNat 0),.int .i64 (.ofNat 0),.int .i64 (.ofNat 0)])]) =>
    (match xExpr ce,dBad cb with
    | some e,some b=>some (okP (postL l (P l) m ⟨e,a,b⟩),.ite (prP (postL l (P l) m ⟨e,a,b⟩)).1 (.leaf .ret (sPsR l (prP (postL l (P l) m ⟨e,a,b⟩)).2)) (.leaf (.exit 0) (sPs l (prP (postL l (P l) m ⟨e,a,b⟩)).2)))
    | _,_=>none)
  | _=>none
theorem LSPs_ok {P:List TokR→Reads} {C:Conds} (hP:SndP P) (hC:SndC 49 C) (m:Nat):SOk X0 (loopAt 28 0) (LSPs P m):=by
  intro S c r h hc
  unfold LSPs at h
  split at h
  · rename_i l a cb ce hs
    split at h
    · rename_i e b h1 h2
      simp only [Option.some.injEq,Prod.mk.injEq] at h
      obtain ⟨rfl,rfl⟩:=h
      rw [xExpr_eq h1,dBad_eq h2] at hs
      refine Goes.pre (keepOf [0,1,4,5,6,7,8]) ?_
      rw [seenS_mask hs]
      have:=(post_rnd hP hC l m ⟨e,a,b⟩ _ (okP_some hc)).goes
      revert this
      unfold outPs
      cases hb:(prP (postL l (P l) m ⟨e,a,b⟩)).1<;>exact id
    · simp at h
  · simp at h
theorem ePs (l:List TokR) (P:List TokR→Reads) (C:Conds) (m:Nat) (a:Int):evF (tPo P C) noTL (atL 2 (LSPs P m) noL) 2 Tryz.f28 [.pl (pToks l) .any,dI a] =
    ckP (C l a) fun r=>ckP (postL l (P l) m (etaR r)) fun x=>bif x.1 then some (encPR x.2) else some (encPR x.2):=by kernel_rfl
theorem post_sound {P:List TokR→Reads} {C:Conds} (hP:SndP P) (hC:SndC 49 C) (m:Nat):SndC 28 fun l a=>thn (C l a) fun r=>(postL l (P l) m r).map (·.2):=by
  intro l a r h
  refine snd_fn (n:=2) (tPo_ok hP hC) (noTL_ok _ _) (f:=28) (fn:=Tryz.f28) (by kernel_rfl) (loops_of (fn:=Tryz.f28) (by kernel_rfl) (loops_1 idsPs.1 (atL_ok (fun _=>LSPs_ok hP hC m) fun h=>absurd idsPs.2.1 h))) ((ePs l P C m a).trans ?_)
  simp only at h
  simp only [ckP_eq,etaR_eq]
  cases h1:C l a with
  | none=>rw [h1] at h;cases h
  | some y =>
    rw [h1] at h
    simp only [thn] at h ⊢
    cases h2:postL l (P l) m y with
    | none=>rw [h2] at h;cases h
    | some x =>
      rw [h2] at h
      obtain rfl:=Option.some.inj h
      obtain ⟨f,y⟩:=x
      cases f<;>rfl
theorem bEx (l:List TokR) (P:List TokR→Reads) (T:Texts) (s:Str) (out:List ExprR) (a:Int):evY (tEx P T) noTL noL 2 (loopAt 86 0) FEx FExR (sEx l s out a) =
    exB l s out a (dk (P l)) (tk T) (fun o a=>some (.normal,sEx l s o a)) (fun o a=>some (.exit 0,sEx l s o a)) (fun x=>some (.ret,sExR l s x)) apE:=by kernel_rfl
theorem idsEx:(loopsAt 86).length=1∧firstId (loopAt 86 0)=2∧loopsOf (loopAt 86 0)=[]:=⟨by kernel_rfl,by kernel_rfl,by kernel_rfl⟩
def outEx (l:List TokR) (s:Str) (x:Bool×PL):Ex×St Pl:=bif x.1 then (.ret,sExR l s x.2) else (.exit 0,sEx l s x.2.l x.2.a)
theorem ex_rnd {P:List TokR→Reads} {T:Texts} (hP:SndP P) (hT:SndT T) (l:List TokR) (s:Str) :
    ∀(m:Nat) (out:List ExprR) (a:Int) (x:Bool×PL),out.length+2 * m≤4000000000→exL l s (P l) T m out a=some x→Rnd (loopAt 86 0) (sEx l s out a) (outEx l s x).1 (outEx l s x).2
  | 0,_,_,_,_,h=>by cases h
  | m+1,out,a,x,hm,h=>by
    have hbig:big=140737488355328:=rfl
    have step:=fun e S' (h:_=some (e,S'))=>goes_ofY (tEx_ok hP hT) (noTL_ok _ _) (noLoops idsEx.2.2) ((bEx l P T s out a).trans h)
    unfold exL at h
    unfold exB at h step
    have stop:∀y:Bool×PL,some y=some x→Goes X0 (loopAt 86 0) (sEx l s out a) (outEx l s y).1 (outEx l s y).2→Rnd (loopAt 86 0) (sEx l s out a) (outEx l s x).1 (outEx l s x).2:=by
      intro y hy hg
      obtain rfl:=Option.some.inj hy
      refine .stop ?_ hg
      unfold outEx
      cases y.1<;>simp
    have hap:∀(o:List ExprR) (e:ExprR) (k:List ExprR→Option (Ex×St Pl)),o.length≤out.length+1→apE o e k=k (o++[e]):=by
      intro o e k ho
      unfold apE
      rw [apK_t (by omega),etaE_eq]
    have val:∀(o:List ExprR) (a':Int),o.length≤out.length+1 →
        (dp (P l) 0 a' fun r=>bif r.b.is then (some (true,⟨[],r.a,r.b⟩):Option (Bool×PL)) else (fun o x K=>K (o++[x])) o r.e fun o=>bif !(sgA l r.a [44]) then (fun o a=>some (false,⟨o,a,bad0⟩)) o r.a else (exL l s (P l) T m) o (w64 (r.a+1)))=some x →
        (∀e S',(dk (P l) 0 a' fun r=>bif r.b.is then (some (.ret,sExR l s ⟨[],r.a,r.b⟩):Option (Ex×St Pl)) else apE o r.e fun o=>bif !(sgA l r.a [44]) then some (.exit 0,sEx l s o r.a) else some (.normal,sEx l s o (w64 (r.a+1))))=some (e,S')→Goes X0 (loopAt 86 0) (sEx l s out a) e S') →
        Rnd (loopAt 86 0) (sEx l s out a) (outEx l s x).1 (outEx l s x).2:=by
      intro o a' ho h step
      unfold dk at step
      unfold dp at h
      simp only [ckP_eq] at step
      cases hx:P l 0 a' with
      | none=>rw [hx] at h;cases h
      | some r =>
      rw [hx] at h step
      simp only [thn] at h step
      cases c1:r.b.is with
      | true=>rw [c1] at h step;exact stop _ h (step _ _ rfl)
      | false =>
      rw [c1,cond_false] at h step
      rw [hap o r.e _ ho] at step
      cases c2:!(sgA l r.a [44]) with
      | true=>rw [c2] at h step;exact stop _ h (step _ _ rfl)
      | false =>
        rw [c2] at h step
        exact .step (step _ _ rfl) (ex_rnd hP hT l s m _ _ x (by rw [List.length_append,List.length_singleton];omega) h)
    cases c1:!(sgA l a s) with
    | false=>rw [c1] at h step;exact stop _ h (step _ _ rfl)
    | true =>
    rw [c1,cond_true] at h step
    cases c2:s==[125] with
    | false=>rw [c2] at h step;exact val out a (by omega) h step
    | true =>
    rw [c2,cond_true] at h step
    have key:∀k:ExprR,signX l (w64 (a+1)) ((fun o x K=>K (o++[x])) out k fun o=>dp (P l) 0 (w64 (w64 (a+1)+1)) fun r=>bif r.b.is then (some (true,⟨[],r.a,r.b⟩):Option (Bool×PL)) else (fun o x K=>K (o++[x])) o r.e fun o=>bif !(sgA l r.a [44]) then (fun o a=>some (false,⟨o,a,bad0⟩)) o r.a else (exL l s (P l) T m) o (w64 (r.a+1))) (fun x=>some (true,x))=some x →
        (∀e S',signX l (w64 (a+1)) (apE out k fun o=>dk (P l) 0 (w64 (w64 (a+1)+1)) fun r=>bif r.b.is then (some (.ret,sExR l s ⟨[],r.a,r.b⟩):Option (Ex×St Pl)) else apE o r.e fun o=>bif !(sgA l r.a [44]) then some (.exit 0,sEx l s o r.a) else some (.normal,sEx l s o (w64 (r.a+1)))) (fun x=>some (.ret,sExR l s x))=some (e,S')→Goes X0 (loopAt 86 0) (sEx l s out a) e S') →
        Rnd (loopAt 86 0) (sEx l s out a) (outEx l s x).1 (outEx l s x).2:=by
      intro k h step
      unfold signX at h step
      rw [hap out k _ (by omega)] at step
      have hv:=val (out++[k]) (w64 (w64 (a+1)+1)) (by rw [List.length_append,List.length_singleton];omega)
      cases c3:(!(sgA l (w64 (a+1)) [61]))==true with
      | false=>rw [c3] at h step;exact hv h step
      | true =>
      rw [c3,cond_true] at h step
      cases c4:!(sgA l (w64 (a+1)) [58]) with
      | true=>rw [c4] at h step;exact stop _ h (step _ _ rfl)
      | false=>rw [c4] at h step;exact hv h step
    unfold keyX at h step
    simp only at h step
    cases c3:(bif (tokA l a).kind != 1 then (tokA l a).kind != 3 else false) with
    | true=>rw [c3] at h step;exact stop _ h (step _ _ rfl)
    | false =>
    rw [c3,cond_false] at h step
    cases c4:(tokA l a).kind==3 with
    | false=>rw [c4] at h step;exact key _ h step
    | true =>
    rw [c4,cond_true] at h step
    unfold tk at step
    unfold tx at h
    simp only [ckP_eq] at step
    cases hx:T (tokA l a) with
    | none=>rw [hx] at h;cases h
    | some y =>
    rw [hx] at h step
    simp only [thn] at h step
    cases c5:y.2.is with
    | true=>rw [c5] at h step;exact stop _ h (step _ _ rfl)
    | false=>rw [c5] at h step;exact key _ h step
def sEx0 (l:List TokR) (s:Str) (a:Int):St Pl:=mkS 115 [(0,.pl (pToks l) .any),(1,dI a),(2,.str s),(6,.nilS),(7,dI 0),(8,.ptr 8 0),(9,.nilS)] [(8,.box false zB)]
theorem weakEx_eq (l:List TokR) (s:Str) (a:Int):nilsS X0.C [(.slot 9,93,pExprs [])] (sEx0 l s a)=sEx l s [] a:=by kernel_rfl
theorem weakEx (l:List TokR) (s:Str) (a:Int):Weak X0 (sEx0 l s a) (sEx l s [] a):=weakEx_eq l s a ▸ Weak.nils xok [(.slot 9,93,pExprs [])] (sEx0 l s a)
def LSEx (P:List TokR→Reads) (T:Texts) (m:Nat) (S:St Pl):Option (Bool×LR Pl):=match seenS 115 [0,1,2,6,7,8,9] S with
  | some ([.pl ⟨.toks,l⟩ .any,.int .i64 a,.str s,.nilS,.int .i64 (.ofNat 0),.ptr 8 0,.nilS],[(8,.box false [.bool false,.int .i64 (.ofNat 0),.int .i64 (.ofNat 0),.int .i64 (.ofNat 0),.int .i64 (.ofNat 0),.str []])]) =>
    some (okP (exL l s (P l) T m [] a),.ite (prP (exL l s (P l) T m [] a)).1 (.leaf .ret (sExR l s (prP (exL l s (P l) T m [] a)).2)) (.leaf (.exit 0) (sEx l s (prP (exL l s (P l) T m [] a)).2.l (prP (exL l s (P l) T m [] a)).2.a)))
  | _=>none
theorem LSEx_ok {P:List TokR→Reads} {T:Texts} (hP:SndP P) (hT:SndT T) (m:Nat) (hm:m≤1000000000):SOk X0 (loopAt 86 0) (LSEx P T m):=by
  intro S c r h hc
  unfold LSEx at h
  split at h
  · rename_i l a s hs
    simp only [Option.some.injEq,Prod.mk.injEq] at h
    obtain ⟨rfl,rfl⟩:=h
    refine Goes.pre (keepOf [0,1,2,6,7,8,9]) ?_
    rw [seenS_mask hs]
    refine Goes.weakPre (weakEx l s a) ?_
    have:=(ex_rnd hP hT l s m [] a _ (by simp;omega) (okP_some hc)).goes
    revert this
    unfold outEx
    cases hb:(prP (exL l s (P l) T m [] a)).1<;>exact id
  · simp at h
theorem eEx (l:List TokR) (P:List TokR→Reads) (T:Texts) (m:Nat) (s:Str) (a:Int):evF (tEx P T) noTL (atL 2 (LSEx P T m) noL) 2 Tryz.f86 [.pl (pToks l) .any,dI a,.str s] =
    ckP (exL l s (P l) T m [] a) fun x=>bif x.1 then some (.tup [.nilS,dI x.2.a,.agg (cBad x.2.b)]) else bif !(sgA l x.2.a s) then some (.tup [.nilS,dI x.2.a,.agg (cBad (wrongB (etaT (tokA l x.2.a))))]) else some (.tup [.pl (pExprs x.2.l) .any,dI (w64 (x.2.a+1)),.agg zB]):=by kernel_rfl
end Go.Proofs.YtlnkjdedeegajaaGreatDoor
namespace Go.Proofs.YtlnkjdedeegajaaGreatDoor
open Go.Eng
set_option maxRecDepth 100000
theorem exs_sound {P:List TokR→Reads} {T:Texts} (hP:SndP P) (hT:SndT T) (m:Nat) (hm:m≤1000000000):SndE fun l e a=>exsM l (P l) T m e a:=by
  intro l e a r h
  have key:=fun d (h:_=some d)=>snd_fn (n:=2) (tEx_ok hP hT) (noTL_ok _ _) (f:=86) (fn:=Tryz.f86) (by kernel_rfl) (loops_of (fn:=Tryz.f86) (by kernel_rfl) (loops_1 idsEx.1 (atL_ok (fun _=>LSEx_ok hP hT m hm) fun h=>absurd idsEx.2.1 h))) ((eEx l P T m e a).trans h)
  simp only [exsM] at h
  simp only [ckP_eq] at key
  cases hx:exL l e (P l) T m [] a with
  | none=>rw [hx] at h;cases h
  | some x =>
    rw [hx] at h key
    obtain ⟨f,x⟩:=x
    obtain rfl:=Option.some.inj h
    have hnil:∀(a:Int) (b:BadR),RDle X0.C (.tup [.nilS,dI a,.agg (cBad b)]) (encPL ⟨[],a,b⟩):=fun a b=>RDle.tup (.cons (RDle.of (.nil _ rfl)) (RDles.refl _))
    simp only [thn] at key
    unfold exFin
    cases f with
    | true=>exact (key _ rfl).post (hnil _ _)
    | false =>
      simp only [cond_false] at key ⊢
      cases c:!(sgA l x.a e) with
      | true=>rw [c] at key;exact (key _ rfl).post (hnil _ _)
      | false=>rw [c] at key;exact key _ rfl
theorem rd_sound {T:Texts} (hT:SndT T):∀n:Nat,n≤1000000000→SndP fun l=>rdM l T n
  | 0,_=>fun l k a r h=>by cases k<;>cases h
  | n+1,hn=>by
    have hP:=rd_sound hT n (by omega)
    have hC:=cond_sound hP
    have hE:=exs_sound hP hT n (by omega)
    have hF:=for_sound hP
    have h1:SndC 49 fun l a=>firstM l (rdM l T n) T n a:=first_sound hP hT hE hF
    have hD:SndC 28 fun l a=>postM l (rdM l T n) T n a:=post_sound hP h1 n
    intro l k a r h
    have key:=fun {L:LK Pl} (hL:∀i,i < (loopsAt 13).length→LoopOk X0 L (loopAt 13 i)) d (h:evF (tRr (fun l=>rdM l T n) (fun l a=>condM l (rdM l T n) a) (fun l a=>postM l (rdM l T n) T n a)) noTL L 2 Tryz.f13 [.pl (pToks l) .any,dI a,dI k]=some d) =>
      snd_fn (n:=2) (tRr_ok hP hC hD) (noTL_ok _ _) (f:=13) (fn:=Tryz.f13) (by kernel_rfl) (loops_of (fn:=Tryz.f13) (by kernel_rfl) hL) h
    have hL:=loops_1 idsR.1 (atL_ok (L:=noL) (fun _=>LSRd_ok hP hC hD n) fun h=>absurd idsR.2.1 h)
    have hL0:∀i,i < (loopsAt 13).length→LoopOk X0 noL (loopAt 13 i):=fun i _=>noL_ok _ _
    match k with
    | 0 =>
      refine key hL0 _ ((eRd0 l _ _ _ a).trans ?_)
      rw [ckP_eq,show condM l (rdM l T n) a=some r from h];rfl
    | 6 =>
      obtain ⟨d,h2,h3,_⟩:=unRel l (rdM l T n) a r h
      exact (key hL0 _ ((eRd6 l _ _ _ a).trans h2)).post h3
    | 7 =>
      refine key hL0 _ ((eRd7 l _ _ _ a).trans ?_)
      rw [ckP_eq,show postM l (rdM l T n) T n a=some r from h];rfl
    | 1 | 2 | 3 | 4 | 5 =>
      refine key hL _ ((eRdL l _ _ _ n a _ (by omega) (by omega)).trans ?_)
      have h:(thn (rdM l T n _ a) fun r=>thn (lvL l _ (rdM l T n) n r) OM.e)=some r:=h
      simp only [ckP_eq,etaR_eq]
      revert h
      cases rdM l T n _ a with
      | none=>intro h;cases h
      | some x =>
        simp only [thn]
        cases lvL l _ (rdM l T n) n x with
        | none=>intro h;cases h
        | some y=>intro h;obtain rfl:=Option.some.inj h;rfl
    | k+8 =>
      have hb:Nat.ble (k+7) 4=false:=rfl
      simp [rdM,hb] at h
end Go.Proofs.YtlnkjdedeegajaaGreatDoor
namespace Go.Proofs.YtlnkjdedeegajaaGreatDoor
open Go.Eng
set_option maxRecDepth 100000
mutual
def esz:ExprR→Nat
  | ⟨_,_,_,_,l,_⟩=>1+eszs l
def eszs:List ExprR→Nat
  | []=>0
  | v::r=>esz v+eszs r
end
theorem eszs_mem {l:List ExprR} {x:ExprR} (h:x∈l):esz x≤eszs l:=by
  induction l with
  | nil=>simp at h
  | cons y r ih =>
    simp only [eszs]
    rcases List.mem_cons.1 h with rfl | h
    · omega
    · have:=ih h;omega
theorem esz_eq (e:ExprR):esz e=1+eszs e.l:=by
  obtain ⟨op,s,s2,v,l,p⟩:=e
  simp only [esz]
theorem getD_mem {α:Type} {l:List α} {i:Nat} {d:α} (h:i < l.length):l.getD i d∈l:=by
  rw [List.getD_eq_getElem?_getD,List.getElem?_eq_getElem h]
  exact List.getElem_mem h
def asE:D Pl→Option ExprR
  | .agg cs=>dExpr cs
  | _=>none
theorem asE_rdle {d:D Pl} {e:ExprR} (h:asE d=some e):RDle X0.C d (.agg (cExpr e)):=by
  unfold asE at h
  split at h
  · exact ex_rdle h
  · simp at h
def pe1 (f:ExprR→Bool×D Pl):List (D Pl)→Option (Bool×D Pl)
  | [d]=>match asE d with
    | some a=>some (f a)
    | none=>none
  | _=>none
theorem pe1_ok {g:FuncId} {f:ExprR→Bool×D Pl} (h:∀a,(f a).1=true→Snd g [.agg (cExpr a)] (f a).2):∀ds b d,pe1 f ds=some (b,d)→b=true→Snd g ds d:=by
  intro ds b d hp hb
  unfold pe1 at hp
  split at hp
  · split at hp
    · rename_i ha
      simp only [Option.some.injEq] at hp
      have h1:=h _ (by rw [hp];exact hb)
      rw [hp] at h1
      exact h1.pre (.cons (asE_rdle ha) .nil)
    · simp at hp
  · simp at hp
def mx (y x:Int):Int:=bif (bif true then decide (y > x) else decide (y < x)) then y else x
def accD (D:ExprR→Int) (l:List ExprR):Nat→Int
  | 0=>0
  | i+1=>mx (D (l.getD i default)) (accD D l i)
def dpth:Nat→ExprR→Int
  | 0,_=>0
  | n+1,e=>IntKind.i64.wrap (accD (dpth n) e.l e.l.length+1)
def tD (f n:Nat):Eng.Told Pl:=tell f (pe1 fun a=>(Nat.blt (esz a) n,dI (dpth n a))) tell0
def s12d (e:ExprR) (x i:Int):St Pl:=mkS 22 [(1,.ptr 1 0),(3,dI x),(4,dI i)] [(1,.box false (cExpr e))]
theorem b12d (e:ExprR) (n:Nat) (x:Int) (i:Nat):evC (tD 8 n) noTL noL 1 (loopAt 8 0) [1,3,4] (s12d e x i) =
    lt_ i e.l.length (ix_ i e.l.length (ck_ (Nat.blt (esz (etaE (e.l.getD i default))) n) (some (.normal,s12d e (mx (dpth n (etaE (e.l.getD i default))) x) (IntKind.i64.wrap ((i:Int)+1)))))) (some (.exit 0,s12d e x i)):=by kernel_rfl
theorem ids12d:(loopsAt 8).length=1∧firstId (loopAt 8 0)=3∧loopsOf (loopAt 8 0)=[]:=⟨by kernel_rfl,by kernel_rfl,by kernel_rfl⟩
def LS12d (n:Nat) (S:St Pl):Option (Bool×LR Pl):=match seenS 22 [1,3,4] S with
  | some ([.ptr 1 0,.int .i64 (.ofNat 0),.int .i64 (.ofNat 0)],[(1,.box false c)])=>match xExpr c with
    | some e=>some (Nat.ble e.l.length big&&Nat.blt (eszs e.l) n,.leaf (.exit 0) (s12d e (accD (dpth n) e.l e.l.length) e.l.length))
    | none=>none
  | _=>none
theorem LS12d_ok {n:Nat} (hT:TOk (tD 8 n)):SOk X0 (loopAt 8 0) (LS12d n):=by
  intro S c r h hc
  unfold LS12d at h
  split at h
  · rename_i ce hs
    split at h
    · rename_i e he
      simp only [Option.some.injEq,Prod.mk.injEq] at h
      obtain ⟨rfl,rfl⟩:=h
      simp only [Bool.and_eq_true,Nat.ble_eq,Nat.blt_eq] at hc
      obtain ⟨hb,hsz⟩:=hc
      obtain rfl:=xExpr_eq he
      refine Goes.pre (keepOf [1,3,4]) ?_
      rw [seenS_mask hs]
      refine loop_all (Sf:=fun i=>s12d e (accD (dpth n) e.l i) i) (n:=e.l.length) (by simp) (fun i hi=>?_) ?_
      · refine goes_of hT (noTL_ok _ _) (noLoops ids12d.2.2) ((b12d e n _ i).trans ?_)
        have:=eszs_mem (getD_mem (d:=default) hi)
        rw [lt_t hi,ix_t hi,etaE_eq,ck_t (blt_t (by omega)),wrap_nat (show i≤big by omega)]
        rfl
      · exact goes_of hT (noTL_ok _ _) (noLoops ids12d.2.2) ((b12d e n _ e.l.length).trans (by rw [lt_f (by omega)]))
    · simp at h
  · simp at h
theorem e12d (e:ExprR) (n:Nat):evF (tD 8 n) noTL (atL 3 (LS12d n) noL) 1 Tryz.f8 [.agg (cExpr e)] =
    ck_ (Nat.ble e.l.length big&&Nat.blt (eszs e.l) n) (some (dI (IntKind.i64.wrap (accD (dpth n) e.l e.l.length+1)))):=by kernel_rfl
theorem rdepth_n:∀n e,esz e < n→Snd 8 [.agg (cExpr e)] (dI (dpth n e)):=by
  intro n
  induction n with
  | zero=>intro e h;omega
  | succ n ih =>
    intro e hlt
    have hT:TOk (tD 8 n):=tell_ok (pe1_ok fun a h=>ih a (by simp only [Nat.blt_eq] at h;exact h)) (tell0_ok _)
    have h1:eszs e.l < n:=by have:=esz_eq e;omega
    refine SoundAt.rooms fun hroom=>snd_fn (n:=1) hT (noTL_ok _ _) (fn:=Tryz.f8) (by kernel_rfl) (loops_of (f:=8) (fn:=Tryz.f8) (by kernel_rfl) (loops_1 ids12d.1 (atL_ok (fun _=>LS12d_ok hT) fun h=>absurd ids12d.2.1 h))) ((e12d e n).trans ?_)
    have hr:Room _ (.agg (cExpr e)):=hroom _ (by simp)
    have hk:e.l.length * 192≤big:=hr (.pl (pExprs e.l) .any) (by simp [cExpr])
    rw [ck_t (by rw [ble_t (by omega),blt_t h1];rfl)]
    rfl
def deepE (e:ExprR):Int:=dpth (esz e+1) e
theorem rdepth_sound (e:ExprR):Snd 8 [.agg (cExpr e)] (dI (deepE e)):=rdepth_n _ e (Nat.lt_succ_self _)
def mvP (b p:PosR):PosR:=⟨w64 (b.at'+p.at'),b.line,w64 (w64 (b.col+p.col) - 1)⟩
mutual
def movE (b:PosR):ExprR→ExprR
  | ⟨op,s,s2,v,l,p⟩=>⟨op,s,s2,v,movL b l,mvP b p⟩
def movL (b:PosR):List ExprR→List ExprR
  | []=>[]
  | e::r=>movE b e::movL b r
end
theorem movE_eq (b:PosR) (e:ExprR):movE b e=⟨e.op,e.s,e.s2,e.v,movL b e.l,mvP b e.p⟩:=by
  obtain ⟨op,s,s2,v,l,p⟩:=e
  simp only [movE]
theorem movL_map (b:PosR) (l:List ExprR):movL b l=l.map (movE b):=by
  induction l with
  | nil=>rfl
  | cons e r ih=>simp only [movL,List.map_cons,ih]
def pMv (n:Nat):List (D Pl)→Option (Bool×D Pl)
  | [.agg cs,.agg [.int .i64 x,.int .i64 y,.int .i64 z]]=>match dExpr cs with
    | some e=>some (Nat.blt (esz e) n,.agg (cExpr (movE ⟨x,y,z⟩ e)))
    | none=>none
  | _=>none
def tMv (n:Nat):Eng.Told Pl:=tell 121 (pMv n) tell0
def sMv (e:ExprR) (b:PosR) (out:List ExprR) (i:Int):St Pl:=mkS 32 [(2,.ptr 2 0),(3,.ptr 3 0),(4,.ptr 4 0),(5,.arr 28),(6,dI i)] [(28,.arr false (pExprs out)),(4,.box false zE),(3,.box false (cPos b)),(2,.box false (cExpr e))]
def FMv:Fix Pl:={ keep:=[2,3,4,5,6] }
theorem bMv (e:ExprR) (b:PosR) (out:List ExprR) (n i:Nat):evZ (tMv n) noTL noL 2 (loopAt 121 0) FMv (sMv e b out i) =
    lt_ i e.l.length (ix_ i e.l.length (ck_ (Nat.blt (esz (etaE (e.l.getD i default))) n) (apK 192 out (etaE (movE (etaP b) (etaE (e.l.getD i default)))) fun o=>some (.normal,sMv e b o (w64 ((i:Int)+1)))))) (some (.exit 0,sMv e b out i)):=by kernel_rfl
theorem idsMv:(loopsAt 121).length=1∧firstId (loopAt 121 0)=4∧loopsOf (loopAt 121 0)=[]:=⟨by kernel_rfl,by kernel_rfl,by kernel_rfl⟩
def sMv0 (e:ExprR) (b:PosR):St Pl:=mkS 32 [(2,.ptr 2 0),(3,.ptr 3 0),(4,.ptr 4 0),(5,.nilS),(6,dI 0)] [(4,.box false zE),(3,.box false (cPos b)),(2,.box false (cExpr e))]
theorem weakMv_eq (e:ExprR) (b:PosR):nilsS X0.C [(.slot 5,28,pExprs [])] (sMv0 e b)=sMv e b [] 0:=by kernel_rfl
theorem weakMv (e:ExprR) (b:PosR):Weak X0 (sMv0 e b) (sMv e b [] 0):=weakMv_eq e b ▸ Weak.nils xok [(.slot 5,28,pExprs [])] (sMv0 e b)
def LSMv (n:Nat) (S:St Pl):Option (Bool×LR Pl):=match seenS 32 [2,3,4,5,6] S with
  | some ([.ptr 2 0,.ptr 3 0,.ptr 4 0,.nilS,.int .i64 (.ofNat 0)],[(4,.box false [.int .i64 (.ofNat 0),.str [],.str [],.int .i64 (.ofNat 0),.int .i64 (.ofNat 0),.str [],.nilS,.nilS,.int .i64 (.ofNat 0),.int .i64 (.ofNat 0),.bool false,.nilS,.int .i64 (.ofNat 0),.int .i64 (.ofNat 0),.int .i64 (.ofNat 0)]),(3,.box false [.int .i64 x,.int .i64 y,.int .i64 z]),(2,.box false ce)])=>(match xExpr ce with
    | some e=>some (Nat.ble (e.l.length * 192) big&&Nat.blt (eszs e.l) n,.leaf (.exit 0) (sMv e ⟨x,y,z⟩ (movL ⟨x,y,z⟩ e.l) e.l.length))
    | none=>none)
  | _=>none
theorem movL_take {b:PosR} {l:List ExprR} {i:Nat} (h:i < l.length):movL b (l.take (i+1))=movL b (l.take i)++[movE b (l.getD i default)]:=by
  rw [movL_map,movL_map,List.take_add_one,List.getElem?_eq_getElem h,Option.toList_some,List.map_append,List.getD_eq_getElem?_getD,List.getElem?_eq_getElem h]
  rfl
theorem movL_len (b:PosR) (l:List ExprR):(movL b l).length=l.length:=by rw [movL_map,List.length_map]
theorem LSMv_ok {n:Nat} (hT:TOk (tMv n)):SOk X0 (loopAt 121 0) (LSMv n):=by
  intro S c r h hc
  unfold LSMv at h
  split at h
  · rename_i x y z ce hs
    split at h
    · rename_i e he
      simp only [Option.some.injEq,Prod.mk.injEq] at h
      obtain ⟨rfl,rfl⟩:=h
      rw [Bool.and_eq_true,Nat.ble_eq,Nat.blt_eq] at hc
      rw [xExpr_eq he] at hs
      refine Goes.pre (keepOf [2,3,4,5,6]) ?_
      rw [seenS_mask hs]
      refine Goes.weakPre (weakMv e ⟨x,y,z⟩) ?_
      refine loop_all (Sf:=fun i=>sMv e ⟨x,y,z⟩ (movL ⟨x,y,z⟩ (e.l.take i)) (i:Int)) (n:=e.l.length) (by simp) (fun i hi=>?_) ?_
      · refine goes_ofZ hT (noTL_ok _ _) (noLoops idsMv.2.2) ((bMv e _ _ n i).trans ?_)
        have:=eszs_mem (getD_mem (d:=default) hi)
        have hlen:(movL ⟨x,y,z⟩ (e.l.take i)).length=i:=by rw [movL_len,List.length_take];omega
        have hbig:big=140737488355328:=rfl
        rw [lt_t hi,ix_t hi,etaE_eq,etaE_eq,ck_t (blt_t (by omega)),apK_t (by rw [hlen];omega),movL_take hi,show w64 ((i:Int)+1)=((i+1:Nat):Int) from wrap_nat (by omega)]
        rfl
      · have:=goes_ofZ hT (noTL_ok _ _) (noLoops idsMv.2.2) ((bMv e ⟨x,y,z⟩ (movL ⟨x,y,z⟩ (e.l.take e.l.length)) n e.l.length).trans (lt_f (by omega) _ _))
        rw [List.take_length] at this
        show Goes X0 _ (sMv e ⟨x,y,z⟩ (movL ⟨x,y,z⟩ (e.l.take e.l.length)) _) _ _
        rw [List.take_length]
        exact this
    · simp at h
  · simp at h
theorem eMv (e:ExprR) (b:PosR) (n:Nat):evF (tMv n) noTL (atL 4 (LSMv n) noL) 2 Tryz.f121 [.agg (cExpr e),.agg (cPos b)] =
    ck_ (Nat.ble (e.l.length * 192) big&&Nat.blt (eszs e.l) n) (some (.agg (cExpr ⟨e.op,e.s,e.s2,e.v,movL (etaP b) e.l,mvP b e.p⟩))):=by kernel_rfl
theorem mv_n:∀n e b,esz e < n→Snd 121 [.agg (cExpr e),.agg (cPos b)] (.agg (cExpr (movE b e))):=by
  intro n
  induction n with
  | zero=>intro e b h;omega
  | succ n ih =>
    intro e b hlt
    have hT:TOk (tMv n):=tell_ok (fun ds c d h hc=>by
      unfold pMv at h
      split at h
      · split at h
        · rename_i h1
          simp only [Option.some.injEq,Prod.mk.injEq] at h
          obtain ⟨rfl,rfl⟩:=h
          exact (ih _ ⟨_,_,_⟩ (by simpa using hc)).pre (.cons (ex_rdle h1) (.cons (RDle.refl _) .nil))
        · simp at h
      · simp at h) (tell0_ok _)
    have h1:eszs e.l < n:=by have:=esz_eq e;omega
    refine SoundAt.rooms fun hroom=>snd_fn (n:=2) hT (noTL_ok _ _) (f:=121) (fn:=Tryz.f121) (by kernel_rfl) (loops_of (fn:=Tryz.f121) (by kernel_rfl) (loops_1 idsMv.1 (atL_ok (fun _=>LSMv_ok hT) fun h=>absurd idsMv.2.1 h))) ((eMv e b n).trans ?_)
    have hr:Room _ (.agg (cExpr e)):=hroom _ (by simp)
    have hk:e.l.length * 192≤big:=hr (.pl (pExprs e.l) .any) (by simp [cExpr])
    rw [ck_t (by rw [ble_t (by omega),blt_t h1];rfl),movE_eq]
    rfl
def pMvA:List (D Pl)→Option (Bool×D Pl)
  | [.agg cs,.agg [.int .i64 x,.int .i64 y,.int .i64 z]]=>match dExpr cs with
    | some e=>some (true,.agg (cExpr (movE ⟨x,y,z⟩ e)))
    | none=>none
  | _=>none
theorem pMvA_ok:∀ds b d,pMvA ds=some (b,d)→b=true→Snd 121 ds d:=by
  intro ds c d h hc
  unfold pMvA at h
  split at h
  · split at h
    · rename_i h1
      simp only [Option.some.injEq,Prod.mk.injEq] at h
      obtain ⟨_,rfl⟩:=h
      exact (mv_n _ _ ⟨_,_,_⟩ (Nat.lt_succ_self _)).pre (.cons (ex_rdle h1) (.cons (RDle.refl _) .nil))
    · simp at h
  · simp at h
structure WR where
  e:ExprR
  c:Int
  p:PosR
  deriving Inhabited
abbrev Wholes:=Str→Option WR
def pWh (W:Wholes):List (D Pl)→Option (Bool×D Pl)
  | [.str s]=>some (okP (W s),.tup [.agg (cExpr (prP (W s)).e),.agg (cDg (prP (W s)).c (prP (W s)).p)])
  | _=>none
def tWh (W:Wholes):Eng.Told Pl:=tell 7 (pWh W) (tell 121 pMvA tell0)
def sTx (t:TokR) (out:List ExprR) (i:Int):St Pl:=mkS 95 [(1,.ptr 1 0),(2,.ptr 2 0),(3,.ptr 3 0),(4,.ptr 4 0),(5,dI i)] [(4,.box false (cN 26 [] [] (.arr 64) t.p)),(64,.arr false (pExprs out)),(3,.box false zB),(2,.box false zE),(1,.box false (cTok t))]
def sTxR (e:ExprR) (b:BadR):St Pl:=mkS 95 [(2,.ptr 2 0),(3,.ptr 3 0)] [(3,.box false (cBad b)),(2,.box false (cExpr e))]
def FTx:Fix Pl:={ keep:=[1,2,3,4,5],lose:=[6,7,8],can:=[(4,11,64)],ord:=[4,64,3,2,1] }
def FTxR:Fix Pl:={ calm:=[64,91],keep:=[2,3],lose:=[1,4,6,7,8,64,91],wid:=[(2,6,pVals []),(2,7,pStrs []),(2,11,pExprs [])],ord:=[3,2] }
end Go.Proofs.YtlnkjdedeegajaaGreatDoor
namespace Go.Proofs.YtlnkjdedeegajaaGreatDoor
open Go.Eng
set_option maxRecDepth 100000
def pt (t:TokR) (i:Nat):PartR:=t.parts.getD i default
theorem bTx (t:TokR) (W:Wholes) (out:List ExprR) (i:Nat):evY (tWh W) noTL noL 2 (loopAt 84 0) FTx FTxR (sTx t out i) =
    lt_ i t.parts.length (ix_ i t.parts.length (bif !(pt t i).expr then apK 192 out (litE 3 0 (pt t i).s t.p) fun o=>some (.normal,sTx t o (w64 ((i:Int)+1)))
      else ckP (W (pt t i).s) fun x=>bif x.c != 0 then some (.ret,sTxR (nodeE 26 [] [] out t.p) ⟨true,x.c,mvP (pt t i).p x.p⟩) else apK 192 out (etaE (movE (etaP (pt t i).p) (etaE x.e))) fun o=>some (.normal,sTx t o (w64 ((i:Int)+1))))) (some (.exit 0,sTx t out i)):=by kernel_rfl
theorem idsTx:(loopsAt 84).length=1∧firstId (loopAt 84 0)=7∧loopsOf (loopAt 84 0)=[]:=⟨by kernel_rfl,by kernel_rfl,by kernel_rfl⟩
def txL (W:Wholes) (tp:PosR):List PartR→List ExprR→Option (Bool×List ExprR×BadR)
  | [],out=>some (false,out,bad0)
  | p::r,out=>bif !p.expr then txL W tp r (out++[litE 3 0 p.s tp]) else thn (W p.s) fun x=>bif x.c != 0 then some (true,out,⟨true,x.c,mvP p.p x.p⟩) else txL W tp r (out++[movE p.p x.e])
def SndW (W:Wholes):Prop:=∀s r,W s=some r→Snd 7 [.str s] (.tup [.agg (cExpr r.e),.agg (cDg r.c r.p)])
theorem pWh_ok {W:Wholes} (hW:SndW W):∀ds b d,pWh W ds=some (b,d)→b=true→Snd 7 ds d:=by
  intro ds b d h hb
  unfold pWh at h
  split at h
  · simp only [Option.some.injEq,Prod.mk.injEq] at h
    obtain ⟨rfl,rfl⟩:=h
    exact hW _ _ (okP_some hb)
  · simp at h
theorem tWh_ok {W:Wholes} (hW:SndW W):TOk (tWh W):=tell_ok (pWh_ok hW) (tell_ok pMvA_ok (tell0_ok _))
def outTx (t:TokR) (x:Bool×List ExprR×BadR):Ex×St Pl:=bif x.1 then (.ret,sTxR (nodeE 26 [] [] x.2.1 t.p) x.2.2) else (.exit 0,sTx t x.2.1 t.parts.length)
theorem tx_rnd {W:Wholes} (hW:SndW W) (t:TokR) (hl:t.parts.length≤100000):∀(k i:Nat) (out:List ExprR) (x:Bool×List ExprR×BadR),t.parts.length - i=k→i≤t.parts.length→out.length≤i→txL W t.p (t.parts.drop i) out=some x →
    Rnd (loopAt 84 0) (sTx t out i) (outTx t x).1 (outTx t x).2
  | 0,i,out,x,hk,hi,ho,h=>by
    obtain rfl:i=t.parts.length:=by omega
    rw [List.drop_length] at h
    obtain rfl:=Option.some.inj h
    exact .stop (by simp [outTx]) (goes_ofY (tWh_ok hW) (noTL_ok _ _) (noLoops idsTx.2.2) ((bTx t W out t.parts.length).trans (lt_f (by omega) _ _)))
  | k+1,i,out,x,hk,hi,ho,h=>by
    have hbig:big=140737488355328:=rfl
    have hlt:i < t.parts.length:=by omega
    have step:=fun e S' (h:_=some (e,S'))=>goes_ofY (tWh_ok hW) (noTL_ok _ _) (noLoops idsTx.2.2) ((bTx t W out i).trans h)
    rw [lt_t hlt,ix_t hlt,show w64 ((i:Int)+1)=((i+1:Nat):Int) from wrap_nat (by omega),apK_t (by omega),ckP_eq] at step
    rw [List.drop_eq_getElem_cons hlt] at h
    have hp:t.parts[i]=pt t i:=by unfold pt;rw [List.getD_eq_getElem?_getD,List.getElem?_eq_getElem hlt];rfl
    rw [hp] at h
    simp only [txL] at h
    have hlen:∀e:ExprR,(out++[e]).length≤i+1:=by intro e;rw [List.length_append,List.length_singleton];omega
    cases c1:!(pt t i).expr with
    | true =>
      rw [c1] at h step
      exact .step (step _ _ rfl) (tx_rnd hW t hl k (i+1) _ x (by omega) (by omega) (hlen _) h)
    | false =>
      rw [c1,cond_false] at h step
      cases hx:W (pt t i).s with
      | none=>rw [hx] at h;cases h
      | some y =>
        rw [hx] at h step
        simp only [thn] at h step
        cases c2:y.c != 0 with
        | true =>
          rw [c2] at h step
          obtain rfl:=Option.some.inj h
          exact .stop (by simp [outTx]) (step _ _ rfl)
        | false =>
          rw [c2,cond_false] at h step
          rw [apK_t (by omega),etaE_eq,etaE_eq] at step
          exact .step (step _ _ rfl) (tx_rnd hW t hl k (i+1) _ x (by omega) (by omega) (hlen _) h)
def textM (W:Wholes) (t:TokR):Option (ExprR×BadR):=bif Nat.ble t.parts.length 100000 then
    bif (t.parts.length:Int)==0 then some (litE 3 0 [] t.p,bad0) else bif (bif (t.parts.length:Int)==1 then !(pt t 0).expr else false) then some (litE 3 0 (pt t 0).s t.p,bad0)
    else thn (txL W t.p t.parts []) fun x=>some (nodeE 26 [] [] x.2.1 t.p,x.2.2)
  else none
def sTx0 (t:TokR):St Pl:=mkS 95 [(1,.ptr 1 0),(2,.ptr 2 0),(3,.ptr 3 0),(4,.ptr 4 0),(5,dI 0)] [(4,.box false (cN 26 [] [] .nilS t.p)),(3,.box false zB),(2,.box false zE),(1,.box false (cTok t))]
def sTx' (t:TokR):St Pl:=mkS 95 [(1,.ptr 1 0),(2,.ptr 2 0),(3,.ptr 3 0),(4,.ptr 4 0),(5,dI 0)] [(64,.arr false (pExprs [])),(4,.box false (cN 26 [] [] (.arr 64) t.p)),(3,.box false zB),(2,.box false zE),(1,.box false (cTok t))]
theorem weakTx_eq (t:TokR):nilsS X0.C [(.cell 4 11,64,pExprs [])] (sTx0 t)=sTx' t:=by kernel_rfl
theorem weakTx (t:TokR):Weak X0 (sTx0 t) (sTx t [] 0):=by
  have h:=Weak.nils xok [(.cell 4 11,64,pExprs [])] (sTx0 t)
  rw [weakTx_eq] at h
  exact h.trans (Weak.ord [4,64,3,2,1] _)
def LSTx (W:Wholes) (S:St Pl):Option (Bool×LR Pl):=match seenS 95 [1,2,3,4,5] S with
  | some ([.ptr 1 0,.ptr 2 0,.ptr 3 0,.ptr 4 0,.int .i64 (.ofNat 0)],[(4,.box false [.int .i64 (.ofNat 26),.str [],.str [],.int .i64 (.ofNat 0),.int .i64 (.ofNat 0),.str [],.nilS,.nilS,.int .i64 (.ofNat 0),.int .i64 (.ofNat 0),.bool false,.nilS,.int .i64 x,.int .i64 y,.int .i64 z]),(3,.box false [.bool false,.int .i64 (.ofNat 0),.int .i64 (.ofNat 0),.int .i64 (.ofNat 0),.int .i64 (.ofNat 0),.str []]),(2,.box false [.int .i64 (.ofNat 0),.str [],.str [],.int .i64 (.ofNat 0),.int .i64 (.ofNat 0),.str [],.nilS,.nilS,.int .i64 (.ofNat 0),.int .i64 (.ofNat 0),.bool false,.nilS,.int .i64 (.ofNat 0),.int .i64 (.ofNat 0),.int .i64 (.ofNat 0)]),
      (1,.box false [.int .i64 k,.str s,.int .i64 n,.pl ⟨.parts,ps⟩ .any,.int .i64 a,.int .i64 b,.int .i64 c])]) =>
    some (((x==a&&y==b)&&(z==c&&Nat.ble ps.length 100000))&&okP (txL W ⟨x,y,z⟩ ps []),.ite (prP (txL W ⟨x,y,z⟩ ps [])).1 (.leaf .ret (sTxR (nodeE 26 [] [] (prP (txL W ⟨x,y,z⟩ ps [])).2.1 ⟨x,y,z⟩) (prP (txL W ⟨x,y,z⟩ ps [])).2.2))
      (.leaf (.exit 0) (sTx ⟨k,s,n,ps,⟨x,y,z⟩⟩ (prP (txL W ⟨x,y,z⟩ ps [])).2.1 ps.length)))
  | _=>none
theorem LSTx_ok {W:Wholes} (hW:SndW W):SOk X0 (loopAt 84 0) (LSTx W):=by
  intro S c r h hc
  unfold LSTx at h
  split at h
  · rename_i x y z k s n ps a b c hs
    simp only [Option.some.injEq,Prod.mk.injEq] at h
    obtain ⟨rfl,rfl⟩:=h
    simp only [Bool.and_eq_true,beq_iff_eq,Nat.ble_eq] at hc
    obtain ⟨⟨⟨rfl,rfl⟩,rfl,hl⟩,hok⟩:=hc
    refine Goes.pre (keepOf [1,2,3,4,5]) ?_
    rw [seenS_mask hs]
    refine Goes.weakPre (weakTx ⟨k,s,n,ps,⟨x,y,z⟩⟩) ?_
    have:=(tx_rnd hW ⟨k,s,n,ps,⟨x,y,z⟩⟩ hl _ 0 [] _ rfl (by simp) (by simp) (okP_some hok)).goes
    revert this
    unfold outTx
    show Goes X0 _ _ (bif (prP (txL W ⟨x,y,z⟩ ps [])).1 then _ else _:Ex×St Pl).1 (bif (prP (txL W ⟨x,y,z⟩ ps [])).1 then _ else _:Ex×St Pl).2→_
    cases hb:(prP (txL W ⟨x,y,z⟩ ps [])).1<;>exact id
  · simp at h
def txK (W:Wholes) (t:TokR):Option (Bool×List ExprR×BadR):=txL W (etaP t.p) t.parts []
end Go.Proofs.YtlnkjdedeegajaaGreatDoor
namespace Go.Proofs.YtlnkjdedeegajaaGreatDoor
open Go.Eng
set_option maxRecDepth 100000
theorem eTx (t:TokR) (W:Wholes):evF (tWh W) noTL (atL 7 (LSTx W) noL) 2 Tryz.f84 [.agg (cTok t)] =
    bif (t.parts.length:Int)==0 then some (.tup [.agg (cL 3 0 [] t.p),.agg zB]) else ixo_ 0 t.parts.length (((t.parts.length:Int)==1)==true) (bif (bif (t.parts.length:Int)==1 then !(pt t 0).expr else false) then ix_ 0 t.parts.length (some (.tup [.agg (cL 3 0 (pt t 0).s t.p),.agg zB])) else
      ck_ (((t.p.at'==t.p.at'&&t.p.line==t.p.line)&&(t.p.col==t.p.col&&Nat.ble t.parts.length 100000))&&okP (txK W t)) (bif (prP (txK W t)).1 then some (.tup [.agg (cExpr (nodeE 26 [] [] (prP (txK W t)).2.1 t.p)),.agg (cBad (prP (txK W t)).2.2)]) else some (.tup [.agg (cN 26 [] [] (.pl (pExprs (prP (txK W t)).2.1) .any) t.p),.agg zB]))):=by kernel_rfl
theorem txL_ok {W:Wholes} {tp:PosR}:∀(l:List PartR) (out:List ExprR) (x:Bool×List ExprR×BadR),txL W tp l out=some x→x.1=false→x.2.2=bad0
  | [],out,x,h,_=>by obtain rfl:=Option.some.inj h;rfl
  | p::r,out,x,h,hx=>by
    simp only [txL] at h
    cases c1:!p.expr with
    | true=>rw [c1] at h;exact txL_ok r _ x h hx
    | false =>
      rw [c1,cond_false] at h
      cases hw:W p.s with
      | none=>rw [hw] at h;cases h
      | some y =>
        rw [hw] at h
        simp only [thn] at h
        cases c2:y.c != 0 with
        | true=>rw [c2] at h;obtain rfl:=Option.some.inj h;cases hx
        | false=>rw [c2] at h;exact txL_ok r _ x h hx
theorem text_sound {W:Wholes} (hW:SndW W):SndT (textM W):=by
  intro t r h
  have key:=fun d (h:_=some d)=>snd_fn (n:=2) (tWh_ok hW) (noTL_ok _ _) (f:=84) (fn:=Tryz.f84) (by kernel_rfl) (loops_of (fn:=Tryz.f84) (by kernel_rfl) (loops_1 idsTx.1 (atL_ok (fun _=>LSTx_ok hW) fun h=>absurd idsTx.2.1 h))) ((eTx t W).trans h)
  have lit:∀s:Str,RDle X0.C (.tup [.agg (cL 3 0 s t.p),.agg zB]) (.tup [.agg (cExpr (litE 3 0 s t.p)),.agg (cBad bad0)]):=fun s=>RDle.tup (.cons (cL_rdle _ _ _ _) (RDles.refl _))
  unfold textM at h
  cases c0:Nat.ble t.parts.length 100000 with
  | false=>rw [c0] at h;cases h
  | true =>
  rw [c0,cond_true] at h
  cases c1:(t.parts.length:Int)==0 with
  | true =>
    rw [c1] at h key
    obtain rfl:=Option.some.inj h
    exact (key _ rfl).post (lit _)
  | false =>
  rw [c1,cond_false] at h key
  rw [beq_eq_false_iff_ne] at c1
  have hpos:0 < t.parts.length:=by omega
  rw [ixo_t hpos,ix_t hpos] at key
  cases c2:(bif (t.parts.length:Int)==1 then !(pt t 0).expr else false) with
  | true =>
    rw [c2] at h key
    obtain rfl:=Option.some.inj h
    exact (key _ rfl).post (lit _)
  | false =>
  rw [c2,cond_false] at h key
  have hk:txK W t=txL W t.p t.parts []:=rfl
  rw [hk] at key
  cases hx:txL W t.p t.parts [] with
  | none=>rw [hx] at h;cases h
  | some x =>
    have hx2:=txL_ok _ _ x hx
    rw [hx] at h key
    obtain rfl:=Option.some.inj h
    rw [ck_t (by rw [beq_self_eq_true,beq_self_eq_true,beq_self_eq_true,c0];rfl)] at key
    obtain ⟨f,o,b⟩:=x
    cases f with
    | true=>exact key _ rfl
    | false =>
      obtain rfl:b=bad0:=hx2 rfl
      exact (key _ rfl).post (RDle.tup (.cons (cN_rdle _ _ _ _ _ (RDle.refl _)) (RDles.refl _)))
def tWo (P:List TokR→Reads):Eng.Told Pl:=tH (tell 9 pLex (tell 13 (pRd P) tell0))
theorem tWo_ok {P:List TokR→Reads} (hP:SndP P):TOk (tWo P):=tH_ok (tell_ok pLex_ok (tell_ok (pRd_ok hP) (tell0_ok _)))
def badW (l:List TokR) (r:PR):BadR:=bif !r.b.is then (bif (tokA l r.a).kind != 0 then wrongB (tokA l r.a) else r.b) else r.b
def wholeM (P:List TokR→Reads) (s:Str):Option WR:=bif (allM s).bad != 0 then some ⟨e00,(allM s).bad,(allM s).bp⟩ else
  thn (P (allM s).l 0 0) fun r=>bif (badW (allM s).l r).is then some ⟨e00,(badW (allM s).l r).c,(badW (allM s).l r).p⟩ else some ⟨r.e,0,p00⟩
def erW (b:BadR):Option (D Pl):=some (.tup [.agg zE,.agg (cDg b.c b.p)])
def fiW (r:PR):Option (D Pl):=bif r.b.is then erW r.b else some (.tup [.agg (cExpr r.e),.agg cz])
theorem eWo (s:Str) (P:List TokR→Reads):evF (tWo P) noTL noL 2 Tryz.f7 [.str s]=bif (allM s).bad != 0 then some (.tup [.agg zE,.agg (cDg (allM s).bad (allM s).bp)]) else ckP (P (allM s).l 0 0) fun r =>
   bif (!r.b.is)==true then (bif (tokA (allM s).l r.a).kind != 0 then erW (wrongB (tokA (allM s).l r.a)) else fiW r) else fiW r:=by kernel_rfl
theorem zE_rdle:RDle X0.C (.agg zE) (.agg (cExpr e00)):=cN_rdle 0 [] [] [] p00 (RDle.of (.nil _ rfl))
theorem whole_sound {P:List TokR→Reads} (hP:SndP P):SndW (wholeM P):=by
  intro s r h
  have hL0:∀i,i < (loopsAt 7).length→LoopOk X0 noL (loopAt 7 i):=fun i _=>noL_ok _ _
  have key:=fun d (h:_=some d)=>snd_fn (n:=2) (tWo_ok hP) (noTL_ok _ _) (f:=7) (fn:=Tryz.f7) (by kernel_rfl) (loops_of (fn:=Tryz.f7) (by kernel_rfl) hL0) ((eWo s P).trans h)
  have bad:∀(c:Int) (p:PosR),RDle X0.C (.tup [.agg zE,.agg (cDg c p)]) (.tup [.agg (cExpr e00),.agg (cDg c p)]):=fun c p=>RDle.tup (.cons zE_rdle (RDles.refl _))
  unfold wholeM at h
  cases c1:(allM s).bad != 0 with
  | true=>rw [c1] at h key;obtain rfl:=Option.some.inj h;exact (key _ rfl).post (bad _ _)
  | false =>
  rw [c1,cond_false] at h key
  rw [ckP_eq] at key
  cases hx:P (allM s).l 0 0 with
  | none=>rw [hx] at h;cases h
  | some x =>
  rw [hx] at h key
  simp only [thn] at h key
  unfold badW at h
  unfold fiW at key
  cases c2:x.b.is with
  | true =>
    simp only [c2,Bool.not_true,cond_false,cond_true] at h key
    obtain rfl:=Option.some.inj h
    exact (key _ rfl).post (bad _ _)
  | false =>
    simp only [c2,Bool.not_false,cond_false,cond_true] at h key
    cases c3:(tokA (allM s).l x.a).kind != 0 with
    | true =>
      rw [c3] at h key
      obtain rfl:=Option.some.inj h
      exact (key _ rfl).post (bad _ _)
    | false =>
      simp only [c3,c2,cond_false] at h key
      obtain rfl:=Option.some.inj h
      exact key _ rfl
def tok1 (s:Str):TokR:=(allM s).l.getD 0 default
def parseM (W:Wholes) (s:Str):Option WR:=thn (W s) fun x=>bif x.c==0 then (bif decide (deepE x.e > 24) then (bif Nat.blt 0 (allM s).l.length then some ⟨e00,12,(tok1 s).p⟩ else none) else some x) else some ⟨e00,x.c,x.p⟩
def fuel:Nat:=1000000
def T0:Texts:=fun _=>none
def W1:Wholes:=wholeM fun l=>rdM l T0 fuel
def T1:Texts:=textM W1
def W2:Wholes:=wholeM fun l=>rdM l T1 fuel
theorem W1_snd:SndW W1:=whole_sound (rd_sound (fun t r h=>by cases h) fuel (by decide))
theorem T1_snd:SndT T1:=text_sound W1_snd
theorem P2_snd:SndP fun l=>rdM l T1 fuel:=rd_sound T1_snd fuel (by decide)
theorem W2_snd:SndW W2:=whole_sound P2_snd
end Go.Proofs.YtlnkjdedeegajaaGreatDoor
