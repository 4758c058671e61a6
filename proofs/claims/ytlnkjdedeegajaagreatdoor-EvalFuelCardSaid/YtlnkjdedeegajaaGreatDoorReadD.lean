/-
  THE DOCUMENT's READER: each part's contract, from what is told of what is read deeper.
-/
import Derived.Test.YtlnkjdedeegajaaGreatDoorCondD
namespace Go.Proofs.YtlnkjdedeegajaaGreatDoor
open Go.Eng
set_option maxRecDepth 100000
def Rel (x:Option PR) (y:Option (D Pl)):Prop:=∀r,x=some r→∃d,y=some d∧RDle X0.C d (encPR r)∧isOw d=false
theorem Rel.br {c:Bool} {x x':Option PR} {y y':Option (D Pl)} (h:Rel x y) (h':Rel x' y'):Rel (bif c then x else x') (bif c then y else y'):=by cases c<;>assumption
theorem Rel.thn {γ:Type} [Inhabited γ] (o:Option γ) {k:γ→Option PR} {k':γ→Option (D Pl)} (h:∀r,Rel (k r) (k' r)):Rel (thn o k) (ckP o k'):=by
  rw [ckP_eq]
  cases o with
  | none=>intro r hr;cases hr
  | some x=>exact h x
theorem cN_rdle (op:Int) (s s2:Str) {d:D Pl} (l:List ExprR) (p:PosR) (h:RDle X0.C d (.pl (pExprs l) .any)):RDle X0.C (.agg (cN op s s2 d p)) (.agg (cExpr (nodeE op s s2 l p))) :=
  RDle.agg (.cons (RDle.refl _) (.cons (RDle.refl _) (.cons (RDle.refl _) (.cons (RDle.refl _) (.cons (RDle.refl _) (.cons (RDle.refl _) (.cons (RDle.of (.nil _ rfl)) (.cons (RDle.of (.nil _ rfl)) (.cons (RDle.refl _) (.cons (RDle.refl _) (.cons (RDle.refl _) (.cons h (RDles.refl _)))))))))))))
theorem cL_rdle (k i:Int) (s:Str) (p:PosR):RDle X0.C (.agg (cL k i s p)) (.agg (cExpr (litE k i s p))) :=
  RDle.agg (.cons (RDle.refl _) (.cons (RDle.refl _) (.cons (RDle.refl _) (.cons (RDle.refl _) (.cons (RDle.refl _) (.cons (RDle.refl _) (.cons (RDle.of (.nil _ rfl)) (.cons (RDle.of (.nil _ rfl)) (.cons (RDle.refl _) (.cons (RDle.refl _) (.cons (RDle.refl _) (.cons (RDle.of (.nil _ rfl)) (RDles.refl _)))))))))))))
theorem tup_rdle {cs:List (D Pl)} {e:ExprR} (h:RDle X0.C (.agg cs) (.agg (cExpr e))) (a:Int) (b:BadR):RDle X0.C (.tup [.agg cs,dI a,.agg (cBad b)]) (encPR ⟨e,a,b⟩):=RDle.tup (.cons h (RDles.refl _))
theorem Rel.e (r:PR):Rel (OM.e r) (OD.e r):=by
  intro r' h
  obtain rfl:r=r':=Option.some.inj h
  exact ⟨_,rfl,RDle.refl _,rfl⟩
theorem Rel.v (k i:Int) (s:Str) (p:PosR) (a:Int) (b:BadR):Rel (OM.v k i s p a b) (OD.v k i s p a b):=by
  intro r' h
  obtain rfl:=Option.some.inj h
  exact ⟨_,rfl,tup_rdle (cL_rdle _ _ _ _) _ _,rfl⟩
theorem Rel.n (op:Int) (s s2:Str) (l:List ExprR) (p:PosR) (a:Int) (b:BadR):Rel (OM.n op s s2 l p a b) (OD.n op s s2 l p a b):=by
  intro r' h
  obtain rfl:=Option.some.inj h
  exact ⟨_,rfl,tup_rdle (cN_rdle _ _ _ _ _ (by rw [etaL_eq];exact RDle.of (.any _ _))) _ _,rfl⟩
theorem Rel.z (op:Int) (s s2:Str) (p:PosR) (a:Int) (b:BadR):Rel (OM.z op s s2 p a b) (OD.z op s s2 p a b):=by
  intro r' h
  obtain rfl:=Option.some.inj h
  exact ⟨_,rfl,tup_rdle (cN_rdle _ _ _ _ _ (RDle.of (.nil _ rfl))) _ _,rfl⟩
theorem Rel.y (op:Int) (s s2:Str) (l:List ExprR) (p:PosR) (a:Int) (b:BadR):Rel (OM.y op s s2 l p a b) (OD.y op s s2 l p a b):=by
  intro r' h
  obtain rfl:=Option.some.inj h
  exact ⟨_,rfl,tup_rdle (cN_rdle _ _ _ _ _ (RDle.refl _)) _ _,rfl⟩
theorem Rel.g (op:Int) (s s2:Str) (l:List ExprR) (p:PosR) (a:Int) (b:BadR):Rel (OM.g op s s2 l p a b) (OD.g op s s2 l p a b):=by
  intro r' h
  obtain rfl:=Option.some.inj h
  exact ⟨_,rfl,tup_rdle (cN_rdle _ _ _ _ _ (by rw [etaL_eq];exact RDle.refl _)) _ _,rfl⟩
theorem condRel (l:List TokR) (P:Reads) (a:Int):Rel (condX l a (dp P) OM) (condX l a (dk P) OD):=by
  unfold condX orF
  repeat' first | exact Rel.e _ | exact Rel.n _ _ _ _ _ _ _ | apply Rel.br | (apply Rel.thn;intro _)
theorem unRel (l:List TokR) (P:Reads) (a:Int):Rel (unX l a (dp P) OM) (unX l a (dk P) OD):=by
  unfold unX
  repeat' first | exact Rel.n _ _ _ _ _ _ _ | apply Rel.br | (apply Rel.thn;intro _) | exact Rel.e _
theorem forRel (op:Int) (l:List TokR) (P:Reads) (a:Int) (e:Str) (p:PosR):Rel (forY op l a e p (dp P) OM) (forY op l a e p (dk P) OD):=by
  unfold forY orF
  simp only [List.nil_append,List.cons_append]
  repeat' first | exact Rel.g _ _ _ _ _ _ _ | exact Rel.z _ _ _ _ _ _ | apply Rel.br | (apply Rel.thn;intro _)
theorem firstRel (l:List TokR) (P:Reads) (T:Texts) (E:Exps) (F:Fors) (a:Int) :
    Rel (firstX l a (dp P) (tx T) (fun e a K=>thn (E e a) K) (fun e a p K=>thn (F e a p) K) OM) (firstX l a (dk P) (tk T) (fun e a K=>ckP (E e a) K) (fun e a p K=>ckP (F e a p) K) OD):=by
  unfold firstX
  repeat' first | exact Rel.v _ _ _ _ _ _ | exact Rel.y _ _ _ _ _ _ _ | exact Rel.z _ _ _ _ _ _ | apply Rel.br | (apply Rel.thn;intro _) | exact Rel.e _
def SndP (P:List TokR→Reads):Prop:=∀l (k:Nat) a r,P l k a=some r→Snd 13 [.pl (pToks l) .any,dI a,dI k] (encPR r)
def SndT (T:Texts):Prop:=∀t r,T t=some r→Snd 84 [.agg (cTok t)] (.tup [.agg (cExpr r.1),.agg (cBad r.2)])
def SndE (E:List TokR→Exps):Prop:=∀l e a r,E l e a=some r→Snd 86 [.pl (pToks l) .any,dI a,.str e] (encPL r)
def SndF (F:List TokR→Fors):Prop:=∀l e a p r,F l e a p=some r→Snd 88 [.pl (pToks l) .any,dI a,.str e,.agg (cPos p)] (encPR r)
def SndC (g:FuncId) (C:Conds):Prop:=∀l a r,C l a=some r→Snd g [.pl (pToks l) .any,dI a] (encPR r)
theorem pRd_ok {P:List TokR→Reads} (hP:SndP P):∀ds b d,pRd P ds=some (b,d)→b=true→Snd 13 ds d:=by
  intro ds b d h hb
  unfold pRd at h
  split at h
  · simp only [Option.some.injEq,Prod.mk.injEq] at h
    obtain ⟨rfl,rfl⟩:=h
    exact hP _ _ _ _ (okP_some hb)
  · simp at h
theorem pTx_ok {T:Texts} (hT:SndT T):∀ds b d,pTx T ds=some (b,d)→b=true→Snd 84 ds d:=by
  intro ds b d h hb
  unfold pTx at h
  split at h
  · split at h
    · rename_i h1
      simp only [Option.some.injEq,Prod.mk.injEq] at h
      obtain ⟨rfl,rfl⟩:=h
      exact (hT _ _ (okP_some hb)).pre (.cons (tok_rdle h1) .nil)
    · simp at h
  · simp at h
theorem pEx_ok {E:List TokR→Exps} (hE:SndE E):∀ds b d,pEx E ds=some (b,d)→b=true→Snd 86 ds d:=by
  intro ds b d h hb
  unfold pEx at h
  split at h
  · simp only [Option.some.injEq,Prod.mk.injEq] at h
    obtain ⟨rfl,rfl⟩:=h
    exact hE _ _ _ _ (okP_some hb)
  · simp at h
theorem pFo_ok {F:List TokR→Fors} (hF:SndF F):∀ds b d,pFo F ds=some (b,d)→b=true→Snd 88 ds d:=by
  intro ds b d h hb
  unfold pFo at h
  split at h
  · simp only [Option.some.injEq,Prod.mk.injEq] at h
    obtain ⟨rfl,rfl⟩:=h
    exact hF _ _ _ _ _ (okP_some hb)
  · simp at h
theorem pC1_ok {g:FuncId} {C:Conds} (hC:SndC g C):∀ds b d,pC1 C ds=some (b,d)→b=true→Snd g ds d:=by
  intro ds b d h hb
  unfold pC1 at h
  split at h
  · simp only [Option.some.injEq,Prod.mk.injEq] at h
    obtain ⟨rfl,rfl⟩:=h
    exact hC _ _ _ (okP_some hb)
  · simp at h
theorem tRd_ok {P:List TokR→Reads} (hP:SndP P):TOk (tRd P):=tH_ok (tell_ok (pRd_ok hP) (tell0_ok _))
theorem tFi_ok {P:List TokR→Reads} {T:Texts} {E:List TokR→Exps} {F:List TokR→Fors} (hP:SndP P) (hT:SndT T) (hE:SndE E) (hF:SndF F):TOk (tFi P T E F) :=
  tH_ok (tell_ok (pRd_ok hP) (tell_ok (pTx_ok hT) (tell_ok (pEx_ok hE) (tell_ok (pFo_ok hF) (tell0_ok _)))))
theorem tRr_ok {P:List TokR→Reads} {C D:Conds} (hP:SndP P) (hC:SndC 27 C) (hD:SndC 28 D):TOk (tRr P C D) :=
  tH_ok (tell_ok (pRd_ok hP) (tell_ok (pC1_ok hC) (tell_ok (pC1_ok hD) (tell0_ok _))))
theorem tPo_ok {P:List TokR→Reads} {C:Conds} (hP:SndP P) (hC:SndC 49 C):TOk (tPo P C):=tH_ok (tell_ok (pRd_ok hP) (tell_ok (pC1_ok hC) (tell0_ok _)))
theorem tEx_ok {P:List TokR→Reads} {T:Texts} (hP:SndP P) (hT:SndT T):TOk (tEx P T):=tH_ok (tell_ok (pRd_ok hP) (tell_ok (pTx_ok hT) (tell0_ok _)))
theorem eCond (l:List TokR) (P:List TokR→Reads) (a:Int):ev (tRd P) noTL 1 27 [.pl (pToks l) .any,dI a]=condX l a (dk (P l)) OD:=by kernel_rfl
theorem eFirst (l:List TokR) (P:List TokR→Reads) (T:Texts) (E:List TokR→Exps) (F:List TokR→Fors) (a:Int):ev (tFi P T E F) noTL 2 49 [.pl (pToks l) .any,dI a] =
    firstX l a (dk (P l)) (tk T) (fun e a K=>ckP (E l e a) K) (fun e a p K=>ckP (F l e a p) K) OD:=by kernel_rfl
theorem eFor1 (l:List TokR) (P:List TokR→Reads) (a:Int) (p:PosR):ev (tRd P) noTL 2 88 [.pl (pToks l) .any,dI a,.str [93],.agg (cPos p)]=forY 24 l a [93] p (dk (P l)) OD:=by kernel_rfl
theorem eFor2 (l:List TokR) (P:List TokR→Reads) (a:Int) (p:PosR):ev (tRd P) noTL 2 88 [.pl (pToks l) .any,dI a,.str [125],.agg (cPos p)]=forY 25 l a [125] p (dk (P l)) OD:=by kernel_rfl
theorem cond_sound {P:List TokR→Reads} (hP:SndP P):SndC 27 fun l a=>condM l (P l) a:=by
  intro l a r h
  obtain ⟨d,h1,h2,_⟩:=condRel l (P l) a r h
  exact (snd_of (tRd_ok hP) (noTL_ok _ _) ((eCond l P a).trans h1)).post h2
theorem for_sound {P:List TokR→Reads} (hP:SndP P):SndF fun l e a p=>forM l (P l) e a p:=by
  intro l e a p r h
  simp only [forM] at h
  cases h1:e==[93] with
  | true =>
    rw [h1] at h
    obtain rfl:=beq_iff_eq.1 h1
    obtain ⟨d,h2,h3,_⟩:=forRel 24 l (P l) a [93] p r h
    exact (snd_of (tRd_ok hP) (noTL_ok _ _) ((eFor1 l P a p).trans h2)).post h3
  | false =>
    rw [h1,cond_false] at h
    cases h2:e==[125] with
    | true =>
      rw [h2] at h
      obtain rfl:=beq_iff_eq.1 h2
      obtain ⟨d,h2,h3,_⟩:=forRel 25 l (P l) a [125] p r h
      exact (snd_of (tRd_ok hP) (noTL_ok _ _) ((eFor2 l P a p).trans h2)).post h3
    | false=>rw [h2] at h;cases h
theorem first_sound {P:List TokR→Reads} {T:Texts} {E:List TokR→Exps} {F:List TokR→Fors} (hP:SndP P) (hT:SndT T) (hE:SndE E) (hF:SndF F) :
    SndC 49 fun l a=>firstX l a (dp (P l)) (tx T) (fun e a K=>thn (E l e a) K) (fun e a p K=>thn (F l e a p) K) OM:=by
  intro l a r h
  obtain ⟨d,h1,h2,_⟩:=firstRel l (P l) T (E l) (F l) a r h
  exact (snd_of (tFi_ok hP hT hE hF) (noTL_ok _ _) ((eFirst l P T E F a).trans h1)).post h2
end Go.Proofs.YtlnkjdedeegajaaGreatDoor
