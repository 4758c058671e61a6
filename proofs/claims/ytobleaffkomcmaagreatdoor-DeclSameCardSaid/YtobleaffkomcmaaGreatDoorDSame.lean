/-
  TWO CONFIGURATIONS, BY BOTH; WHERE A RESOURCE STANDS; 'suretylaw12.DeclSame' answers true, whatever the texts.
-/
import Derived.Test.YtobleaffkomcmaaGreatDoorDRes
import Derived.Test.YtobleaffkomcmaaGreatDoorAwk3
import Derived.Test.YtobleaffkomcmaaGreatDoorDeclR
namespace Go.Proofs.YtobleaffkomcmaaGreatDoor
open Go.Eng
set_option maxRecDepth 100000
namespace DS
open Dec Res
theorem tRsS_ok:TOk (tEqRs sameRs):=tell_ok (p2Rs_ok rs_sound) (tell0_ok _)
def pRe1:List (D Pl)→Option (Bool×D Pl)
  | [.pl ⟨.ressm,a⟩ .any,.pl ⟨.ressm,b⟩ .any,.fn 17 []]=>some (true,.bool (sameL sameRs a b))
  | _=>none
theorem pRe1_ok:∀ds b d,pRe1 ds=some (b,d)→b=true→Snd 16 ds d:=by
  intro ds b d h hb
  unfold pRe1 at h
  split at h
  · simp only [Option.some.injEq,Prod.mk.injEq] at h
    obtain ⟨_,rfl⟩:=h
    exact eqEqRs_sound tRsS_ok _ _
  · simp at h
def cCfgM (c:CfgR):List (D Pl):=[.pl (pInputs c.inputs) .any,.pl (pFields c.locals) .any,.pl (pRessm c.ress) .any,.pl (pFields c.outs) .any,.pl (pConds c.checks) .any]
theorem cCfgM_le (c:CfgR):RDle X0.C (.agg (cCfg c)) (.agg (cCfgM c)):=RDle.agg (.cons (RDle.refl _) (.cons (RDle.refl _) (.cons (ressm_le _) (RDles.refl _))))
def tSc:Eng.Told Pl:=tell 13 (pEqIn sameIn) (tell 15 pFs (tell 16 pRe1 (tell 18 pCs tell0)))
theorem tSc_ok:TOk tSc:=tell_ok (pEqIn_ok tInS_ok) (tell_ok pFs_ok (tell_ok pRe1_ok (tell_ok pCs_ok (tell0_ok _))))
def scV (a b:CfgR):Option (D Pl):=an (sameL sameIn a.inputs b.inputs) (an (sameL sameFd a.locals b.locals) (an (sameL sameRs a.ress b.ress) (an (sameL sameFd a.outs b.outs) (some (.bool (sameL sameCd a.checks b.checks))))))
theorem eScf (a b:CfgR):evF tSc noTL noL 1 Tryz.f6 [.agg (cCfgM a),.agg (cCfgM b)]=scV a b:=by kernel_rfl
theorem scV_eq (a b:CfgR):scV a b=some (.bool (sameCfg a b)):=by
  unfold scV sameCfg an
  cases sameL sameIn a.inputs b.inputs<;>cases sameL sameFd a.locals b.locals<;>cases sameL sameRs a.ress b.ress<;>cases sameL sameFd a.outs b.outs<;>rfl
theorem sc_sound (a b:CfgR):Snd 6 [.agg (cCfg a),.agg (cCfg b)] (.bool (sameCfg a b)) :=
  SoundAt.pre (.cons (cCfgM_le a) (.cons (cCfgM_le b) .nil)) (snd_fn (n:=1) tSc_ok (noTL_ok _ _) (f:=6) (fn:=Tryz.f6) (by kernel_rfl) (loops_of (f:=6) (fn:=Tryz.f6) (by kernel_rfl) (loops_0 (by kernel_rfl))) ((eScf a b).trans (scV_eq a b)))
def tSd:Eng.Told Pl:=tell 19 (DSE.pe2b fun a b m=>(!m,.bool (DSE.sameE a b))) (tell 20 (p2RsD fun a b=>.bool (sameRs a b)) (tell 21 pSf (tell 22 pSc tell0)))
theorem tSd_ok:TOk tSd:=tell_ok (DSE.pe2b_ok fun a b m h=>by
  cases m with
  | true=>cases h
  | false=>exact DSE.rsame_sound' a b) (tell_ok (p2RsD_ok rd_sound') (tell_ok pSf_ok (tell_ok pSc_ok (tell0_ok _))))
def sD1 (a b:CfgR) (i:Int):St Pl:=mkS 124 [(2,.bool false),(3,.ptr 3 0),(4,.ptr 4 0),(6,.bool false),(7,dI i)] [(4,.box false (cCfgM b)),(3,.box false (cCfgM a))]
def xD1 (a b:CfgR):St Pl:=mkS 124 [(2,.bool false),(3,.ptr 3 0),(4,.ptr 4 0),(6,.bool false)] [(4,.box false (cCfgM b)),(3,.box false (cCfgM a))]
def sD2 (a b:CfgR) (i:Int):St Pl:=mkS 124 [(2,.bool false),(3,.ptr 3 0),(4,.ptr 4 0),(6,.bool false),(10,dI i)] [(4,.box false (cCfgM b)),(3,.box false (cCfgM a))]
def rD:St Pl:=mkS 124 [(6,.bool false)] []
noncomputable def fD1:Fin:=finE { keep:=[2,3,4,6,7],lose:=[8,9] } { keep:=[2,3,4,6],lose:=[8,9] } { keep:=[6],lose:=[3,4,8,9] }
noncomputable def fD2:Fin:=finE { keep:=[2,3,4,6,10] } { keep:=[2,3,4,6] } { keep:=[6],lose:=[3,4] }
def inX (x y:InputR):Bool:=bif (bif !(x.name==y.name) then true else !(x.tk==y.tk&&(x.tof==y.tof&&true))) then true else x.has != y.has
theorem bD1 (a b:CfgR) (i:Nat):evG tSd noTL noL 1 (loopAt 7 0) fD1 (sD1 a b i) =
    lt_ i a.inputs.length (ix_ i a.inputs.length (ix_ i b.inputs.length (bif (inX (a.inputs.getD i default) (b.inputs.getD i default)==false) then (bif (bif (!(DSE.sameE (etaE (a.inputs.getD i default).e) (etaE (b.inputs.getD i default).e))) then true else false) then some (.ret,rD) else some (.normal,sD1 a b (w64 ((i:Int)+1)))) else some (.ret,rD)))) (some (.exit 0,xD1 a b)):=by kernel_rfl
theorem bD2 (a b:CfgR) (i:Nat):evG tSd noTL noL 1 (loopAt 7 1) fD2 (sD2 a b i) =
    lt_ i a.ress.length (ix_ i a.ress.length (ix_ i b.ress.length (bif !(sameRs (etaRm (a.ress.getD i default)) (etaRm (b.ress.getD i default))) then some (.ret,rD) else some (.normal,sD2 a b (w64 ((i:Int)+1)))))) (some (.exit 2,xD1 a b)):=by kernel_rfl
theorem idsD:(loopsAt 7).length=2∧firstId (loopAt 7 0)=4∧firstId (loopAt 7 1)=10∧loopsOf (loopAt 7 0)=[]∧loopsOf (loopAt 7 1)=[]:=⟨by kernel_rfl,by kernel_rfl,by kernel_rfl,by kernel_rfl,by kernel_rfl⟩
def LSD1 (Z:St Pl):Option (Bool×LR Pl):=match seenS 124 [2,3,4,6,7] Z with
  | some ([.bool false,.ptr 3 0,.ptr 4 0,.bool false,.int .i64 (.ofNat 0)],[(4,.box false [.pl ⟨.inputs,b1⟩ .any,.pl ⟨.fields,b2⟩ .any,.pl ⟨.ressm,b3⟩ .any,.pl ⟨.fields,b4⟩ .any,.pl ⟨.conds,b5⟩ .any]),
      (3,.box false [.pl ⟨.inputs,a1⟩ .any,.pl ⟨.fields,a2⟩ .any,.pl ⟨.ressm,a3⟩ .any,.pl ⟨.fields,a4⟩ .any,.pl ⟨.conds,a5⟩ .any])]) =>
    some (Nat.beq a1.length b1.length&&Nat.ble a1.length big,loopR a1.length (fun i=>sameIn (a1.getD i default) (b1.getD i default)) (.exit 0) (xD1 ⟨a1,a2,a3,a4,a5⟩ ⟨b1,b2,b3,b4,b5⟩) .ret fun _=>rD)
  | _=>none
def LSD2 (Z:St Pl):Option (Bool×LR Pl):=match seenS 124 [2,3,4,6,10] Z with
  | some ([.bool false,.ptr 3 0,.ptr 4 0,.bool false,.int .i64 (.ofNat 0)],[(4,.box false [.pl ⟨.inputs,b1⟩ .any,.pl ⟨.fields,b2⟩ .any,.pl ⟨.ressm,b3⟩ .any,.pl ⟨.fields,b4⟩ .any,.pl ⟨.conds,b5⟩ .any]),
      (3,.box false [.pl ⟨.inputs,a1⟩ .any,.pl ⟨.fields,a2⟩ .any,.pl ⟨.ressm,a3⟩ .any,.pl ⟨.fields,a4⟩ .any,.pl ⟨.conds,a5⟩ .any])]) =>
    some (Nat.beq a3.length b3.length&&Nat.ble a3.length big,loopR a3.length (fun i=>sameRs (a3.getD i default) (b3.getD i default)) (.exit 2) (xD1 ⟨a1,a2,a3,a4,a5⟩ ⟨b1,b2,b3,b4,b5⟩) .ret fun _=>rD)
  | _=>none
theorem LSD1_ok:SOk X0 (loopAt 7 0) LSD1:=by
  intro Z c r h hc
  unfold LSD1 at h
  split at h
  · rename_i b1 b2 b3 b4 b5 a1 a2 a3 a4 a5 hs
    simp only [Option.some.injEq,Prod.mk.injEq] at h
    obtain ⟨rfl,rfl⟩:=h
    simp only [Bool.and_eq_true,Nat.ble_eq] at hc
    obtain ⟨hl,hb⟩:=hc
    have hl:=Nat.eq_of_beq_eq_true hl
    refine Goes.pre (keepOf [2,3,4,6,7]) ?_
    rw [seenS_mask hs]
    refine srch tSd_ok (noLoops idsD.2.2.2.1) (finE_ok _ _ _) (k:=1) (Sf:=fun i=>sD1 ⟨a1,a2,a3,a4,a5⟩ ⟨b1,b2,b3,b4,b5⟩ i) hb (by simp) (by simp) (fun i hi=>(bD1 ⟨a1,a2,a3,a4,a5⟩ ⟨b1,b2,b3,b4,b5⟩ i).trans ?_) ((bD1 ⟨a1,a2,a3,a4,a5⟩ ⟨b1,b2,b3,b4,b5⟩ a1.length).trans (lt_f (by simp) _ _))
    rw [lt_t hi,ix_t hi,ix_t (show i < b1.length by omega)]
    simp only [etaE_eq]
    unfold inX sameIn
    rw [bne]
    cases (a1.getD i default).name==(b1.getD i default).name<;>cases ((a1.getD i default).tk==(b1.getD i default).tk&&((a1.getD i default).tof==(b1.getD i default).tof&&true))<;>cases (a1.getD i default).has==(b1.getD i default).has<;>cases DSE.sameE (a1.getD i default).e (b1.getD i default).e<;>rfl
  · simp at h
theorem LSD2_ok:SOk X0 (loopAt 7 1) LSD2:=by
  intro Z c r h hc
  unfold LSD2 at h
  split at h
  · rename_i b1 b2 b3 b4 b5 a1 a2 a3 a4 a5 hs
    simp only [Option.some.injEq,Prod.mk.injEq] at h
    obtain ⟨rfl,rfl⟩:=h
    simp only [Bool.and_eq_true,Nat.ble_eq] at hc
    obtain ⟨hl,hb⟩:=hc
    have hl:=Nat.eq_of_beq_eq_true hl
    refine Goes.pre (keepOf [2,3,4,6,10]) ?_
    rw [seenS_mask hs]
    refine srch tSd_ok (noLoops idsD.2.2.2.2) (finE_ok _ _ _) (k:=1) (Sf:=fun i=>sD2 ⟨a1,a2,a3,a4,a5⟩ ⟨b1,b2,b3,b4,b5⟩ i) hb (by simp) (by simp) (fun i hi=>(bD2 ⟨a1,a2,a3,a4,a5⟩ ⟨b1,b2,b3,b4,b5⟩ i).trans ?_) ((bD2 ⟨a1,a2,a3,a4,a5⟩ ⟨b1,b2,b3,b4,b5⟩ a3.length).trans (lt_f (by simp) _ _))
    rw [lt_t hi,ix_t hi,ix_t (show i < b3.length by omega),etaRm_eq,etaRm_eq]
    cases sameRs (a3.getD i default) (b3.getD i default)<;>rfl
  · simp at h
def sdV (a b:CfgR):Option (D Pl) :=
  bif (bif ((a.inputs.length:Int) != (b.inputs.length:Int)) then true else ((a.ress.length:Int) != (b.ress.length:Int))) then some (.bool false) else
    ck_ (Nat.beq a.inputs.length b.inputs.length&&Nat.ble a.inputs.length big) (bif noF (fun i=>sameIn (a.inputs.getD i default) (b.inputs.getD i default)) a.inputs.length then
      ck_ (Nat.beq a.ress.length b.ress.length&&Nat.ble a.ress.length big) (bif noF (fun i=>sameRs (a.ress.getD i default) (b.ress.getD i default)) a.ress.length then
        an (sameL sameFd a.locals b.locals) (an (sameL sameFd a.outs b.outs) (some (.bool (sameL sameCd a.checks b.checks)))) else some (.bool false)) else some (.bool false))
theorem eSd (a b:CfgR):evF tSd noTL (atL 4 LSD1 (atL 10 LSD2 noL)) 1 Tryz.f7 [.agg (cCfgM a),.agg (cCfgM b),.bool false]=sdV a b:=by kernel_rfl
theorem sdV_eq (a b:CfgR) (h1:a.inputs.length≤big) (h2:a.ress.length≤big):sdV a b=some (.bool (sameCfg a b)):=by
  unfold sdV sameCfg an sameL
  rw [beq_len,beq_len]
  by_cases e1:a.inputs.length=b.inputs.length
  · rw [show (a.inputs.length==b.inputs.length)=true by simp [e1]]
    by_cases e2:a.ress.length=b.ress.length
    · rw [show (a.ress.length==b.ress.length)=true by simp [e2]]
      simp only [Bool.not_true,cond_false,Bool.true_and]
      rw [ck_t (by rw [e1,Nat.beq_refl,←e1];exact ble_t h1),ck_t (by rw [e2,Nat.beq_refl,←e2];exact ble_t h2)]
      cases noF (fun i=>sameIn (a.inputs.getD i default) (b.inputs.getD i default)) a.inputs.length<;>cases noF (fun i=>sameRs (a.ress.getD i default) (b.ress.getD i default)) a.ress.length<;>simp only [cond_true,cond_false,Bool.true_and,Bool.false_and,Bool.and_false]
      generalize (a.locals.length==b.locals.length&&noF (fun i=>sameFd (a.locals.getD i default) (b.locals.getD i default)) a.locals.length)=p
      generalize (a.outs.length==b.outs.length&&noF (fun i=>sameFd (a.outs.getD i default) (b.outs.getD i default)) a.outs.length)=q
      cases p<;>cases q<;>rfl
    · rw [show (a.ress.length==b.ress.length)=false by simp [e2]]
      simp
  · rw [show (a.inputs.length==b.inputs.length)=false by simp [e1]]
    simp
theorem cells_big {t:Ty} {l:List t.C} (h:l.length * X0.C.bys ⟨t,l⟩≤big):l.length≤big:=by
  have h2:0 < X0.C.bys ⟨t,l⟩:=(plC_ok emp).bpos _
  calc l.length=l.length * 1:=by omega
    _≤_:=Nat.mul_le_mul_left _ h2
    _≤big:=h
theorem sd_sound (a b:CfgR):Snd 7 [.agg (cCfg a),.agg (cCfg b),.bool false] (.bool (sameCfg a b)):=by
  refine SoundAt.pre (.cons (cCfgM_le a) (.cons (cCfgM_le b) (RDles.refl _))) (SoundAt.rooms fun hroom=>snd_fn (n:=1) tSd_ok (noTL_ok _ _) (f:=7) (fn:=Tryz.f7) (by kernel_rfl) (loops_of (f:=7) (fn:=Tryz.f7) (by kernel_rfl) (fun i hi=>?_)) ((eSd a b).trans ?_))
  · rw [idsD.1] at hi
    match i,hi with
    | 0,_=>exact atL_ok (fun _=>LSD1_ok) fun h=>absurd idsD.2.1 h
    | 1,_=>exact atL_ok (fun h=>absurd (idsD.2.2.1.symm.trans h) (by decide)) fun _=>atL_ok (fun _=>LSD2_ok) fun h=>absurd idsD.2.2.1 h
  · have hr:Room _ (.agg (cCfgM a)):=hroom _ (by simp)
    exact sdV_eq a b (cells_big (t:=.inputs) (hr (.pl (pInputs a.inputs) .any) (by simp [cCfgM]))) (cells_big (t:=.ressm) (hr (.pl (pRessm a.ress) .any) (by simp [cCfgM])))
def isR (l:List ResR) (t n:Str) (i:Nat):Bool:=bif (l.getD i default).ty==t then (l.getD i default).name==n else false
def sFm (l:List ResR) (t n:Str) (i:Int):St Pl:=mkS 19 [(0,.pl (pRessm l) .any),(1,.fn 24 [.ref [.str t],.ref [.str n]]),(4,dI 0),(7,dI l.length),(8,dI i)] []
noncomputable def fFm:Fin:=finE { keep:=[0,1,4,7,8] } { keep:=[] } { keep:=[4] }
theorem bFm (l:List ResR) (t n:Str) (i:Nat):evG tell0 noTL noL 2 (loopAt 23 0) fFm (sFm l t n i) =
    lt_ i l.length (ix_ i l.length (bif isR l t n i then some (.ret,mkS 19 [(4,dI i)] []) else some (.normal,sFm l t n (w64 ((i:Int)+1))))) (some (.exit 0,mkS 19 [] [])):=by kernel_rfl
theorem idsFm:(loopsAt 23).length=1∧firstId (loopAt 23 0)=2∧loopsOf (loopAt 23 0)=[]:=⟨by kernel_rfl,by kernel_rfl,by kernel_rfl⟩
def LSFm (S:St Pl):Option (Bool×LR Pl):=match seenS 19 [0,1,4,7,8] S with
  | some ([.pl ⟨.ressm,l⟩ .any,.fn 24 [.ref [.str t],.ref [.str n]],.int .i64 (.ofNat 0),.int .i64 k,.int .i64 (.ofNat 0)],[]) =>
    some (k==(l.length:Int)&&Nat.ble l.length big,loopR l.length (fun i=>!(isR l t n i)) (.exit 0) (mkS 19 [] []) .ret fun i=>mkS 19 [(4,dI i)] [])
  | _=>none
theorem LSFm_ok:SOk X0 (loopAt 23 0) LSFm:=by
  intro S c r h hc
  unfold LSFm at h
  split at h
  · rename_i l t n k hs
    simp only [Option.some.injEq,Prod.mk.injEq] at h
    obtain ⟨rfl,rfl⟩:=h
    simp only [Bool.and_eq_true,Nat.ble_eq,beq_iff_eq] at hc
    obtain ⟨rfl,hb⟩:=hc
    refine Goes.pre (keepOf [0,1,4,7,8]) ?_
    rw [seenS_mask hs]
    refine srch (tell0_ok _) (noLoops idsFm.2.2) (finE_ok _ _ _) (k:=2) (Sf:=fun i=>sFm l t n i) hb (by simp) (by simp) (fun i hi=>(bFm l t n i).trans ?_) ((bFm l t n l.length).trans (lt_f (by omega) _ _))
    rw [lt_t hi,ix_t hi]
    cases isR l t n i<;>rfl
  · simp at h
def fmM (l:List ResR) (t n:Str):Int:=bif noF (fun i=>!(isR l t n i)) l.length then -1 else ff (fun i=>!(isR l t n i)) l.length
theorem eFm (l:List ResR) (t n:Str):evF tell0 noTL (atL 2 LSFm noL) 1 Tryz.f23 [.pl (pRessm l) .any,.fn 24 [.ref [.str t],.ref [.str n]]] =
    ck_ (((l.length:Int)==(l.length:Int))&&Nat.ble l.length big) (bif noF (fun i=>!(isR l t n i)) l.length then some (dI (-1)) else some (dI (ff (fun i=>!(isR l t n i)) l.length))):=by kernel_rfl
theorem fm_sound (l:List ResR) (t n:Str):Snd 23 [.pl (pRessm l) .any,.fn 24 [.ref [.str t],.ref [.str n]]] (dI (fmM l t n)):=by
  refine SoundAt.rooms fun hroom=>snd_fn (n:=1) (tell0_ok _) (noTL_ok _ _) (f:=23) (fn:=Tryz.f23) (by kernel_rfl) (loops_of (f:=23) (fn:=Tryz.f23) (by kernel_rfl) (loops_1 idsFm.1 (atL_ok (fun _=>LSFm_ok) fun h=>absurd idsFm.2.1 h))) ((eFm l t n).trans ?_)
  have hl:=cells_big (t:=.ressm) (hroom (.pl (pRessm l) .any) (by simp))
  rw [ck_t (by rw [beq_self_eq_true,ble_t hl];rfl)]
  unfold fmM
  cases noF (fun i=>!(isR l t n i)) l.length<;>rfl
def pFm:List (D Pl)→Option (Bool×D Pl)
  | [.pl ⟨.ressm,l⟩ .any,.fn 24 [.ref [.str t],.ref [.str n]]]=>some (true,dI (fmM l t n))
  | _=>none
theorem pFm_ok:∀ds b d,pFm ds=some (b,d)→b=true→Snd 23 ds d:=by
  intro ds b d h hb
  unfold pFm at h
  split at h
  · simp only [Option.some.injEq,Prod.mk.injEq] at h
    obtain ⟨_,rfl⟩:=h
    exact fm_sound _ _ _
  · simp at h
def tFm:Eng.Told Pl:=tell 23 pFm tell0
theorem tFm_ok:TOk tFm:=tell_ok pFm_ok (tell0_ok _)
theorem eFp (c:CfgR) (t n:Str):evF tFm noTL noL 1 Tryz.f8 [.agg (cCfgM c),.str t,.str n]=some (dI (fmM c.ress t n)):=by kernel_rfl
theorem fp_sound (c:CfgR) (t n:Str):Snd 8 [.agg (cCfg c),.str t,.str n] (dI (fdM c t n)) :=
  SoundAt.pre (.cons (cCfgM_le c) (RDles.refl _)) (snd_fn (n:=1) tFm_ok (noTL_ok _ _) (f:=8) (fn:=Tryz.f8) (by kernel_rfl) (loops_of (f:=8) (fn:=Tryz.f8) (by kernel_rfl) (loops_0 (by kernel_rfl))) (eFp c t n))
def asC:D Pl→Option CfgR
  | .agg [.pl ⟨.inputs,a1⟩ .any,.pl ⟨.fields,a2⟩ .any,.pl ⟨.ress,a3⟩ .any,.pl ⟨.fields,a4⟩ .any,.pl ⟨.conds,a5⟩ .any]=>some ⟨a1,a2,a3,a4,a5⟩
  | _=>none
theorem asC_eq {d:D Pl} {c:CfgR} (h:asC d=some c):d=.agg (cCfg c):=by
  unfold asC at h
  split at h
  · simp only [Option.some.injEq] at h;subst h;rfl
  · simp at h
def pCC (f:CfgR→CfgR→D Pl) (r:List (D Pl)):List (D Pl)→Option (Bool×D Pl)
  | a::b::s=>match asC a,asC b,r,s with
    | some a,some b,[],[]=>some (true,f a b)
    | some a,some b,[.bool false],[.bool false]=>some (true,f a b)
    | _,_,_,_=>none
  | _=>none
theorem pCC_ok {g:FuncId} {f:CfgR→CfgR→D Pl} {r:List (D Pl)} (h:∀a b,Snd g (.agg (cCfg a)::.agg (cCfg b)::r) (f a b)):∀ds b d,pCC f r ds=some (b,d)→b=true→Snd g ds d:=by
  intro ds b d hp hb
  unfold pCC at hp
  split at hp
  · split at hp
    · rename_i h1 h2
      simp only [Option.some.injEq,Prod.mk.injEq] at hp
      obtain ⟨_,rfl⟩:=hp
      rw [asC_eq h1,asC_eq h2]
      exact h _ _
    · rename_i h1 h2
      simp only [Option.some.injEq,Prod.mk.injEq] at hp
      obtain ⟨_,rfl⟩:=hp
      rw [asC_eq h1,asC_eq h2]
      exact h _ _
    · simp at hp
  · simp at hp
def pCF (f:CfgR→Str→Str→D Pl):List (D Pl)→Option (Bool×D Pl)
  | [a,.str t,.str n]=>match asC a with
    | some a=>some (true,f a t n)
    | none=>none
  | _=>none
theorem pCF_ok {g:FuncId} {f:CfgR→Str→Str→D Pl} (h:∀a t n,Snd g [.agg (cCfg a),.str t,.str n] (f a t n)):∀ds b d,pCF f ds=some (b,d)→b=true→Snd g ds d:=by
  intro ds b d hp hb
  unfold pCF at hp
  split at hp
  · split at hp
    · rename_i h1
      simp only [Option.some.injEq,Prod.mk.injEq] at hp
      obtain ⟨_,rfl⟩:=hp
      rw [asC_eq h1]
      exact h _ _ _
    · simp at hp
  · simp at hp
def pRd (R:Str→CfgR×DwR):List (D Pl)→Option (Bool×D Pl)
  | [.str s]=>some (true,encR (R s))
  | _=>none
theorem pRd_ok {g:FuncId} {R:Str→CfgR×DwR} (h:∀s,Snd g [.str s] (encR (R s))):∀ds b d,pRd R ds=some (b,d)→b=true→Snd g ds d:=by
  intro ds b d hp hb
  unfold pRd at hp
  split at hp
  · simp only [Option.some.injEq,Prod.mk.injEq] at hp
    obtain ⟨_,rfl⟩:=hp
    exact h _
  · simp at hp
def tLaw (R:Str→CfgR×DwR) (S T:CfgR→CfgR→Bool) (F G:CfgR→Str→Str→Int):Eng.Told Pl :=
  tell 4 pAwake (tell 5 (pRd R) (tell 6 (pCC (fun a b=>.bool (S a b)) []) (tell 7 (pCC (fun a b=>.bool (T a b)) [.bool false]) (tell 8 (pCF fun c t n=>dI (F c t n)) (tell 9 (pCF fun c t n=>dI (G c t n)) tell0)))))
theorem eLaw (R:Str→CfgR×DwR) (S T:CfgR→CfgR→Bool) (F G:CfgR→Str→Str→Int) (s t k n:Str):evF (tLaw R S T F G) noTL noL 1 Tryz.f3 [.str s,.str t,.str k,.str n] =
    bif (bif (bif (bif decide ((s.length:Int) > 3000) then true else decide ((t.length:Int) > 3000)) then true else decide ((k.length:Int) > 100)) then true else decide ((n.length:Int) > 100)) then some (.bool true) else
      bif (bif (R s).2.c != 0 then true else (R t).2.c != 0) then some (.bool true) else
        an (S (R s).1 (R t).1==T (R s).1 (R t).1) (an (S (R s).1 (R s).1) (an (F (R s).1 k n==G (R s).1 k n) (some (.bool true)))):=by kernel_rfl
theorem same_sound (s t k n:Str):Snd 3 [.str s,.str t,.str k,.str n] (.bool true):=by
  have hT:TOk (tLaw readV sameCfg sameCfg fdM fdM):=tell_ok pAwake_ok (tell_ok (pRd_ok read_sound) (tell_ok (pCC_ok sc_sound) (tell_ok (pCC_ok sd_sound) (tell_ok (pCF_ok fp_sound) (tell_ok (pCF_ok fd_sound) (tell0_ok _))))))
  refine snd_fn (n:=1) hT (noTL_ok _ _) (f:=3) (fn:=Tryz.f3) (by kernel_rfl) (loops_of (f:=3) (fn:=Tryz.f3) (by kernel_rfl) (loops_0 (by kernel_rfl))) ((eLaw readV sameCfg sameCfg fdM fdM s t k n).trans ?_)
  rw [beq_self_eq_true,beq_self_eq_true,sameCfg_refl]
  generalize (bif (bif (bif decide ((s.length:Int) > 3000) then true else decide ((t.length:Int) > 3000)) then true else decide ((k.length:Int) > 100)) then true else decide ((n.length:Int) > 100))=p
  generalize (bif (readV s).2.c != 0 then true else (readV t).2.c != 0)=q
  cases p<;>cases q<;>rfl
end DS
end Go.Proofs.YtobleaffkomcmaaGreatDoor
