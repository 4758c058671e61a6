/-
  WHETHER TWO RESOURCES ARE ONE: what the program and the document compute.
-/
import Derived.Test.YtobleaffkomcmaaGreatDoorDETr
import Derived.Test.YtobleaffkomcmaaGreatDoorDeclR
namespace Go.Proofs.YtobleaffkomcmaaGreatDoor
open Go.Eng
set_option maxRecDepth 100000
namespace DS
open Dec Res
def sameL {α:Type} [Inhabited α] (p:α→α→Bool) (a b:List α):Bool:=(a.length==b.length)&&noF (fun i=>p (a.getD i default) (b.getD i default)) a.length
def sameMb:Option ExprR→Option ExprR→Bool
  | none,none=>true
  | some a,some b=>DSE.sameE a b
  | _,_=>false
def sameIn (a b:InputR):Bool:=bif (bif (bif a.name==b.name then (a.tk==b.tk&&(a.tof==b.tof&&true)) else false) then a.has==b.has else false) then DSE.sameE a.e b.e else false
def sameFd (a b:FieldR):Bool:=bif a.name==b.name then DSE.sameE a.e b.e else false
def sameCd (a b:CondR):Bool:=bif (bif a.name==b.name then DSE.sameE a.if' b.if' else false) then DSE.sameE a.say b.say else false
def sameRs (a b:ResR):Bool:=(a.ty==b.ty)&&((a.name==b.name)&&(sameL sameFd a.fields b.fields&&(sameMb a.count b.count&&(sameMb a.each b.each&&((a.depends==b.depends)&&((a.guard==b.guard)&&((a.first==b.first)&&((a.ignore==b.ignore)&&((a.trigger==b.trigger)&&(sameL sameCd a.pre b.pre&&sameL sameCd a.post b.post))))))))))
def sameCfg (a b:CfgR):Bool:=sameL sameIn a.inputs b.inputs&&(sameL sameFd a.locals b.locals&&(sameL sameRs a.ress b.ress&&(sameL sameFd a.outs b.outs&&sameL sameCd a.checks b.checks)))
theorem sameL_refl {α:Type} [Inhabited α] {p:α→α→Bool} (h:∀x,p x x=true) (a:List α):sameL p a a=true:=by
  unfold sameL
  rw [noF_all,beq_self_eq_true,Bool.true_and,List.all_eq_true]
  exact fun i _=>h _
theorem sameMb_refl (a:Option ExprR):sameMb a a=true:=by
  cases a with
  | none=>rfl
  | some e=>exact DSE.sameE_refl e
theorem sameFd_refl (a:FieldR):sameFd a a=true:=by unfold sameFd;rw [beq_self_eq_true,cond_true,DSE.sameE_refl]
theorem sameCd_refl (a:CondR):sameCd a a=true:=by unfold sameCd;rw [beq_self_eq_true,cond_true,DSE.sameE_refl,DSE.sameE_refl];rfl
theorem sameIn_refl (a:InputR):sameIn a a=true:=by unfold sameIn;simp [DSE.sameE_refl]
theorem sameRs_refl (a:ResR):sameRs a a=true:=by
  unfold sameRs
  simp [sameL_refl sameFd_refl,sameL_refl sameCd_refl,sameMb_refl]
theorem sameCfg_refl (a:CfgR):sameCfg a a=true:=by
  unfold sameCfg
  simp [sameL_refl sameFd_refl,sameL_refl sameCd_refl,sameL_refl sameIn_refl,sameL_refl sameRs_refl]
theorem sameTx_eq (a b:List Str):sameL (fun x y=>x==y) a b=(a==b):=by
  unfold sameL
  by_cases h:a.length=b.length
  · rw [show (a.length==b.length)=true by simp [h],Bool.true_and,noF_all]
    exact DSE.all_beq ([]:Str) a b h
  · rw [show (a.length==b.length)=false by simp [h],Bool.false_and]
    cases hb:a==b with
    | false=>rfl
    | true=>exact absurd (congrArg List.length (beq_iff_eq.1 hb)) h
def etaIn (x:InputR):InputR:=⟨x.name,x.tk,x.tof,x.has,etaE x.e,etaP x.p⟩
theorem etaIn_eq (x:InputR):etaIn x=x:=by show InputR.mk x.name x.tk x.tof x.has (etaE x.e) x.p=x;rw [etaE_eq]
def etaFd (x:FieldR):FieldR:=⟨x.name,etaE x.e⟩
theorem etaFd_eq (x:FieldR):etaFd x=x:=by show FieldR.mk x.name (etaE x.e)=x;rw [etaE_eq]
def etaCd (x:CondR):CondR:=⟨x.name,etaE x.if',etaE x.say⟩
theorem etaCd_eq (x:CondR):etaCd x=x:=by show CondR.mk x.name (etaE x.if') (etaE x.say)=x;rw [etaE_eq,etaE_eq]
def okRs (x:ResR):Bool:=(dOE2 (cOE x.count)).isSome&&(dOE2 (cOE x.each)).isSome
def tSm:Eng.Told Pl:=tell 41 (DSE.pe2 fun a b=>(true,.bool (DSE.sameE a b))) tell0
theorem tSm_ok:TOk tSm:=tell_ok (DSE.pe2_ok fun a b _=>DSE.esame_sound a b) (tell0_ok _)
def tRm:Eng.Told Pl:=tell 19 (DSE.pe2b fun a b m=>(!m,.bool (DSE.sameE a b))) tell0
theorem tRm_ok:TOk tRm:=tell_ok (DSE.pe2b_ok fun a b m h=>by
  cases m with
  | true=>cases h
  | false=>exact DSE.rsame_sound' a b) (tell0_ok _)
theorem eIn (a b:InputR):evF tSm noTL noL 1 Tryz.f14 [.agg (cInput a),.agg (cInput b)] =
    bif ((bif (bif a.name==b.name then (a.tk==b.tk&&(a.tof==b.tof&&true)) else false) then a.has==b.has else false)==true) then some (.bool (DSE.sameE (etaE a.e) (etaE b.e))) else some (.bool false):=by kernel_rfl
theorem in_sound (a b:InputR):Snd 14 [.agg (cInput a),.agg (cInput b)] (.bool (sameIn a b)):=by
  refine snd_fn (n:=1) tSm_ok (noTL_ok _ _) (f:=14) (fn:=Tryz.f14) (by kernel_rfl) (fun _ _ b _=>noL_ok _ b) ((eIn a b).trans ?_)
  rw [etaE_eq,etaE_eq]
  unfold sameIn
  cases (bif (bif a.name==b.name then (a.tk==b.tk&&(a.tof==b.tof&&true)) else false) then a.has==b.has else false)<;>rfl
theorem eFdS (a b:FieldR):evF tSm noTL noL 1 Tryz.f43 [.agg (cField a),.agg (cField b)]=bif ((a.name==b.name)==true) then some (.bool (DSE.sameE (etaE a.e) (etaE b.e))) else some (.bool false):=by kernel_rfl
theorem fdS_sound (a b:FieldR):Snd 43 [.agg (cField a),.agg (cField b)] (.bool (sameFd a b)):=by
  refine snd_fn (n:=1) tSm_ok (noTL_ok _ _) (f:=43) (fn:=Tryz.f43) (by kernel_rfl) (fun _ _ b _=>noL_ok _ b) ((eFdS a b).trans ?_)
  rw [etaE_eq,etaE_eq]
  unfold sameFd
  cases a.name==b.name<;>rfl
theorem eCdS (a b:CondR):evF tSm noTL noL 1 Tryz.f47 [.agg (cCond a),.agg (cCond b)] =
    bif ((a.name==b.name)==true) then (bif (DSE.sameE (etaE a.if') (etaE b.if')==true) then some (.bool (DSE.sameE (etaE a.say) (etaE b.say))) else some (.bool false)) else some (.bool false):=by kernel_rfl
theorem cdS_sound (a b:CondR):Snd 47 [.agg (cCond a),.agg (cCond b)] (.bool (sameCd a b)):=by
  refine snd_fn (n:=1) tSm_ok (noTL_ok _ _) (f:=47) (fn:=Tryz.f47) (by kernel_rfl) (fun _ _ b _=>noL_ok _ b) ((eCdS a b).trans ?_)
  rw [etaE_eq,etaE_eq,etaE_eq,etaE_eq]
  unfold sameCd
  cases a.name==b.name<;>cases DSE.sameE a.if' b.if'<;>rfl
theorem eMb (p q:Bool) (a b:ExprR):evF tSm noTL noL 1 Tryz.f44 [cOE (oE p a),cOE (oE q b)]=some (.bool (bif p then (bif q then DSE.sameE (etaE a) (etaE b) else false) else !q)):=by
  cases p<;>cases q<;>kernel_rfl
theorem eMd (p q:Bool) (a b:ExprR):evF tRm noTL noL 1 Tryz.f50 [cOE (oE p a),cOE (oE q b),.bool false]=some (.bool (bif p then (bif q then DSE.sameE (etaE a) (etaE b) else false) else !q)):=by
  cases p<;>cases q<;>kernel_rfl
theorem oE_of (o:Option ExprR):∃p e,o=oE p e:=by
  cases o with
  | none=>exact ⟨false,e00,rfl⟩
  | some e=>exact ⟨true,e,rfl⟩
theorem sameMb_oE (p q:Bool) (a b:ExprR):sameMb (oE p a) (oE q b)=bif p then (bif q then DSE.sameE (etaE a) (etaE b) else false) else !q:=by
  rw [etaE_eq,etaE_eq]
  cases p<;>cases q<;>rfl
theorem mb_sound (a b:Option ExprR):Snd 44 [cOE a,cOE b] (.bool (sameMb a b)):=by
  obtain ⟨p,x,rfl⟩:=oE_of a
  obtain ⟨q,y,rfl⟩:=oE_of b
  rw [sameMb_oE]
  exact snd_fn (n:=1) tSm_ok (noTL_ok _ _) (f:=44) (fn:=Tryz.f44) (by kernel_rfl) (fun _ _ b _=>noL_ok _ b) (eMb p q x y)
theorem md_sound (a b:Option ExprR):Snd 50 [cOE a,cOE b,.bool false] (.bool (sameMb a b)):=by
  obtain ⟨p,x,rfl⟩:=oE_of a
  obtain ⟨q,y,rfl⟩:=oE_of b
  rw [sameMb_oE]
  exact snd_fn (n:=1) tRm_ok (noTL_ok _ _) (f:=50) (fn:=Tryz.f50) (by kernel_rfl) (fun _ _ b _=>noL_ok _ b) (eMd p q x y)
def pMb:List (D Pl)→Option (Bool×D Pl)
  | [C,E]=>some ((dOE2 C).isSome&&(dOE2 E).isSome,.bool (sameMb ((dOE2 C).getD none) ((dOE2 E).getD none)))
  | _=>none
def pMd:List (D Pl)→Option (Bool×D Pl)
  | [C,E,.bool false]=>some ((dOE2 C).isSome&&(dOE2 E).isSome,.bool (sameMb ((dOE2 C).getD none) ((dOE2 E).getD none)))
  | _=>none
theorem pMb_ok:∀ds b d,pMb ds=some (b,d)→b=true→Snd 44 ds d:=by
  intro ds b d h hb
  unfold pMb at h
  split at h
  · simp only [Option.some.injEq,Prod.mk.injEq] at h
    obtain ⟨rfl,rfl⟩:=h
    rw [Bool.and_eq_true,Option.isSome_iff_exists,Option.isSome_iff_exists] at hb
    obtain ⟨⟨o1,e1⟩,o2,e2⟩:=hb
    rw [e1,e2,dOE2_eq e1,dOE2_eq e2]
    exact mb_sound o1 o2
  · simp at h
theorem pMd_ok:∀ds b d,pMd ds=some (b,d)→b=true→Snd 50 ds d:=by
  intro ds b d h hb
  unfold pMd at h
  split at h
  · simp only [Option.some.injEq,Prod.mk.injEq] at h
    obtain ⟨rfl,rfl⟩:=h
    rw [Bool.and_eq_true,Option.isSome_iff_exists,Option.isSome_iff_exists] at hb
    obtain ⟨⟨o1,e1⟩,o2,e2⟩:=hb
    rw [e1,e2,dOE2_eq e1,dOE2_eq e2]
    exact md_sound o1 o2
  · simp at h
end DS
end Go.Proofs.YtobleaffkomcmaaGreatDoor
namespace Go.Proofs.YtobleaffkomcmaaGreatDoor
open Go.Eng
set_option maxRecDepth 100000
namespace DS
open Dec Res
theorem cOM_le (o:Option ExprR):RDle X0.C (cOE o) (cOM o):=by
  intro cx v h
  cases o with
  | none=>cases h;exact .mrefN _
  | some e =>
    have h':RD X0.C cx v (.ref (cExpr e)):=h
    cases h' with
    | ref b off _ vs hav hcell h1 hrd=>exact .mrefS _ _ rfl (.ref b off _ vs hav hcell h1 hrd)
theorem cResM_les (x:ResR):RDles X0.C (cRes x) (cResM x) :=
  .cons (RDle.refl _) (.cons (RDle.refl _) (.cons (RDle.refl _) (.cons (cOM_le x.count) (.cons (cOM_le x.each) (RDles.refl _)))))
def dOM (b:Bool) (cs:List (D Pl)):Option (Option ExprR):=match dEx cs with
  | some (e,[])=>some (bif b then some e else none)
  | _=>none
theorem dOM_le {b:Bool} {cs:List (D Pl)} {o:Option ExprR} (h:dOM b cs=some o):RDle X0.C (.mref b cs) (cOE o):=by
  unfold dOM at h
  split at h
  · rename_i e he
    simp only [Option.some.injEq] at h
    subst h
    intro cx v hv
    cases hv with
    | mrefN _=>exact .nilP
    | mrefS _ _ hc hr =>
      have:=(dEx_all (C:=X0.C) (fun _=>rfl) he (r':=[]) .nil).spec
      exact hr.le (.ref _ _ this.1 this.2)
  · simp at h
def xRm:List (D Pl)→Option ResR
  | [.str ty,.str n,.pl ⟨.fields,fs⟩ .any,.mref b1 c1,.mref b2 c2,.pl ⟨.strs,de⟩ .any,.bool g,.bool f,.pl ⟨.strs,ig⟩ .any,.pl ⟨.strs,tr⟩ .any,.pl ⟨.conds,pr⟩ .any,.pl ⟨.conds,po⟩ .any,.int .i64 a,.int .i64 b,.int .i64 c] =>
    match dOM b1 c1,dOM b2 c2 with
    | some x,some y=>some ⟨ty,n,fs,x,y,de,g,f,ig,tr,pr,po,⟨a,b,c⟩⟩
    | _,_=>none
  | _=>none
theorem xRm_le {cs:List (D Pl)} {x:ResR} (h:xRm cs=some x):RDle X0.C (.agg cs) (.agg (cRes x)):=by
  unfold xRm at h
  split at h
  · split at h
    · rename_i h1 h2
      simp only [Option.some.injEq] at h
      subst h
      exact RDle.agg (.cons (RDle.refl _) (.cons (RDle.refl _) (.cons (RDle.refl _) (.cons (dOM_le h1) (.cons (dOM_le h2) (RDles.refl _))))))
    · simp at h
  · simp at h
def oM (o:Option ExprR):Option ExprR:=bif o.isSome then some (etaE (o.getD default)) else none
theorem oM_eq (o:Option ExprR):oM o=o:=by
  cases o with
  | none=>rfl
  | some e=>show some (etaE e)=some e;rw [etaE_eq]
def etaRm (x:ResR):ResR:=⟨x.ty,x.name,x.fields,oM x.count,oM x.each,x.depends,x.guard,x.first,x.ignore,x.trigger,x.pre,x.post,etaP x.p⟩
theorem etaRm_eq (x:ResR):etaRm x=x:=by
  show ResR.mk x.ty x.name x.fields (oM x.count) (oM x.each) x.depends x.guard x.first x.ignore x.trigger x.pre x.post x.p=x
  rw [oM_eq,oM_eq]
theorem ressm_le (l:List ResR):RDle X0.C (.pl (pRess l) .any) (.pl (pRessm l) .any):=by
  intro cx v h
  have sp:=fun i=>(cResM_les (l.getD i default)).spec
  cases h with
  | pl0 a c _ _ hl hk=>exact .pl0 a c _ _ hl hk
  | pl b off n c _ _ vs hn hc hb hk hav hcell h1 hrd =>
    refine .pl b off n c (pRessm l) .any vs hn hc hb hk hav (fun i j d hi hd=>?_) (fun i j d hi hd=>?_) fun i j d hi hd=>?_
    all_goals obtain ⟨e,he,hle⟩:=(sp i).2 j d hd
    · exact hcell i j e hi he
    · exact h1 i j e hi he
    · exact hle _ _ (hrd i j e hi he)
end DS
end Go.Proofs.YtobleaffkomcmaaGreatDoor
namespace Go.Proofs.YtobleaffkomcmaaGreatDoor
open Go.Eng
set_option maxRecDepth 100000
namespace DS
theorem beq_len (a b:Nat):((a:Int) != (b:Int))=!(a==b):=by
  by_cases h:a=b
  · subst h;simp
  · rw [show (a==b)=false by simp [h]];simp [bne_iff_ne];omega
def p2In (f:InputR→InputR→D Pl):List (D Pl)→Option (Bool×D Pl)
  | [.agg cs,.agg ds]=>match dInput cs,dInput ds with
    | some a,some b=>some (true,f a b)
    | _,_=>none
  | _=>none
theorem p2In_ok {g:FuncId} {f:InputR→InputR→D Pl} (h:∀a b,Snd g [.agg (cInput a),.agg (cInput b)] (f a b)):∀ds b d,p2In f ds=some (b,d)→b=true→Snd g ds d:=by
  intro ds b d hp hb
  unfold p2In at hp
  split at hp
  · split at hp
    · rename_i h1 h2
      simp only [Option.some.injEq,Prod.mk.injEq] at hp
      obtain ⟨_,rfl⟩:=hp
      exact (h _ _).pre (.cons (RDle.agg (RDles.of2 (Ty.dec_enc (C:=X0.C) (fun _=>rfl) .inputs _ _ h1))) (.cons (RDle.agg (RDles.of2 (Ty.dec_enc (C:=X0.C) (fun _=>rfl) .inputs _ _ h2))) (RDles.refl _)))
    · simp at hp
  · simp at hp
def tEqIn (S:InputR→InputR→Bool):Eng.Told Pl:=tell 14 (p2In fun a b=>.bool (S a b)) tell0
def sEqIn (a b:List InputR) (i:Int):St Pl:=mkS 32 [(1,.pl (pInputs b) .any),(2,.fn 14 []),(6,.bool false),(15,.pl (pInputs a) .any),(16,dI a.length),(17,dI i)] []
def rEqIn:St Pl:=mkS 32 [(6,.bool false)] []
noncomputable def fEqIn:Fin:=finE { keep:=[1,2,6,15,16,17],lose:=[8,9] } { keep:=[6],lose:=[8,9] } { keep:=[6],lose:=[8,9] }
theorem bEqIn (S:InputR→InputR→Bool) (a b:List InputR) (i:Nat):evG (tEqIn S) noTL noL 1 (loopAt 13 0) fEqIn (sEqIn a b i) =
    lt_ i a.length (ix_ i a.length (ix_ i b.length (bif !(S (etaIn (a.getD i default)) (etaIn (b.getD i default))) then some (.ret,rEqIn) else some (.normal,sEqIn a b (w64 ((i:Int)+1)))))) (some (.exit 0,rEqIn)):=by kernel_rfl
theorem idsEqIn:(loopsAt 13).length=1∧firstId (loopAt 13 0)=4∧loopsOf (loopAt 13 0)=[]:=⟨by kernel_rfl,by kernel_rfl,by kernel_rfl⟩
def LSEqIn (S:InputR→InputR→Bool) (Z:St Pl):Option (Bool×LR Pl):=match seenS 32 [1,2,6,15,16,17] Z with
  | some ([.pl ⟨.inputs,b⟩ .any,.fn 14 [],.bool false,.pl ⟨.inputs,a⟩ .any,.int .i64 k,.int .i64 (.ofNat 0)],[]) =>
    some ((k==(a.length:Int))&&(Nat.beq a.length b.length&&Nat.ble a.length big),loopR a.length (fun i=>S (a.getD i default) (b.getD i default)) (.exit 0) rEqIn .ret fun _=>rEqIn)
  | _=>none
theorem LSEqIn_ok {S:InputR→InputR→Bool} (hT:TOk (tEqIn S)):SOk X0 (loopAt 13 0) (LSEqIn S):=by
  intro Z c r h hc
  unfold LSEqIn at h
  split at h
  · rename_i b a k hs
    simp only [Option.some.injEq,Prod.mk.injEq] at h
    obtain ⟨rfl,rfl⟩:=h
    simp only [Bool.and_eq_true,Nat.ble_eq,beq_iff_eq] at hc
    obtain ⟨rfl,hl,hb⟩:=hc
    have hl:=Nat.eq_of_beq_eq_true hl
    refine Goes.pre (keepOf [1,2,6,15,16,17]) ?_
    rw [seenS_mask hs]
    refine srch hT (noLoops idsEqIn.2.2) (finE_ok _ _ _) (k:=1) (Sf:=fun i=>sEqIn a b i) hb (by simp) (by simp) (fun i hi=>(bEqIn S a b i).trans ?_) ((bEqIn S a b a.length).trans (lt_f (by omega) _ _))
    rw [lt_t hi,ix_t hi,ix_t (by omega),etaIn_eq,etaIn_eq]
    cases S (a.getD i default) (b.getD i default)<;>rfl
  · simp at h
theorem eEqIn (S:InputR→InputR→Bool) (a b:List InputR):evF (tEqIn S) noTL (atL 4 (LSEqIn S) noL) 1 Tryz.f13 [.pl (pInputs a) .any,.pl (pInputs b) .any,.fn 14 []] =
    bif ((a.length:Int) != (b.length:Int)) then some (.bool false) else ck_ (((a.length:Int)==(a.length:Int))&&(Nat.beq a.length b.length&&Nat.ble a.length big)) (bif noF (fun i=>S (a.getD i default) (b.getD i default)) a.length then some (.bool true) else some (.bool false)):=by kernel_rfl
theorem eqEqIn_sound {S:InputR→InputR→Bool} (hT:TOk (tEqIn S)) (a b:List InputR):Snd 13 [.pl (pInputs a) .any,.pl (pInputs b) .any,.fn 14 []] (.bool (sameL S a b)):=by
  refine SoundAt.rooms fun hroom=>snd_fn (n:=1) hT (noTL_ok _ _) (f:=13) (fn:=Tryz.f13) (by kernel_rfl) (loops_of (f:=13) (fn:=Tryz.f13) (by kernel_rfl) (loops_1 idsEqIn.1 (atL_ok (fun _=>LSEqIn_ok hT) fun h=>absurd idsEqIn.2.1 h))) ((eEqIn S a b).trans ?_)
  have ha:a.length * 256≤big:=hroom (.pl (pInputs a) .any) (by simp)
  unfold sameL
  rw [beq_len]
  by_cases hl:a.length=b.length
  · rw [show (a.length==b.length)=true by simp [hl],Bool.not_true,cond_false,ck_t (by rw [beq_self_eq_true,hl,Nat.beq_refl];exact ble_t (by omega)),Bool.true_and]
    cases noF (fun i=>S (a.getD i default) (b.getD i default)) a.length<;>rfl
  · rw [show (a.length==b.length)=false by simp [hl]]
    rfl
def pEqIn (S:InputR→InputR→Bool):List (D Pl)→Option (Bool×D Pl)
  | [.pl ⟨.inputs,a⟩ .any,.pl ⟨.inputs,b⟩ .any,.fn 14 []]=>some (true,.bool (sameL S a b))
  | _=>none
theorem pEqIn_ok {S:InputR→InputR→Bool} (hT:TOk (tEqIn S)):∀ds b d,pEqIn S ds=some (b,d)→b=true→Snd 13 ds d:=by
  intro ds b d h hb
  unfold pEqIn at h
  split at h
  · simp only [Option.some.injEq,Prod.mk.injEq] at h
    obtain ⟨_,rfl⟩:=h
    exact eqEqIn_sound hT _ _
  · simp at h
def p2Fd (f:FieldR→FieldR→D Pl):List (D Pl)→Option (Bool×D Pl)
  | [.agg cs,.agg ds]=>match dField cs,dField ds with
    | some a,some b=>some (true,f a b)
    | _,_=>none
  | _=>none
theorem p2Fd_ok {g:FuncId} {f:FieldR→FieldR→D Pl} (h:∀a b,Snd g [.agg (cField a),.agg (cField b)] (f a b)):∀ds b d,p2Fd f ds=some (b,d)→b=true→Snd g ds d:=by
  intro ds b d hp hb
  unfold p2Fd at hp
  split at hp
  · split at hp
    · rename_i h1 h2
      simp only [Option.some.injEq,Prod.mk.injEq] at hp
      obtain ⟨_,rfl⟩:=hp
      exact (h _ _).pre (.cons (RDle.agg (RDles.of2 (Ty.dec_enc (C:=X0.C) (fun _=>rfl) .fields _ _ h1))) (.cons (RDle.agg (RDles.of2 (Ty.dec_enc (C:=X0.C) (fun _=>rfl) .fields _ _ h2))) (RDles.refl _)))
    · simp at hp
  · simp at hp
def tEqFd (S:FieldR→FieldR→Bool):Eng.Told Pl:=tell 43 (p2Fd fun a b=>.bool (S a b)) tell0
def sEqFd (a b:List FieldR) (i:Int):St Pl:=mkS 32 [(1,.pl (pFields b) .any),(2,.fn 43 []),(6,.bool false),(15,.pl (pFields a) .any),(16,dI a.length),(17,dI i)] []
def rEqFd:St Pl:=mkS 32 [(6,.bool false)] []
noncomputable def fEqFd:Fin:=finE { keep:=[1,2,6,15,16,17],lose:=[8,9] } { keep:=[6],lose:=[8,9] } { keep:=[6],lose:=[8,9] }
theorem bEqFd (S:FieldR→FieldR→Bool) (a b:List FieldR) (i:Nat):evG (tEqFd S) noTL noL 1 (loopAt 42 0) fEqFd (sEqFd a b i) =
    lt_ i a.length (ix_ i a.length (ix_ i b.length (bif !(S (etaFd (a.getD i default)) (etaFd (b.getD i default))) then some (.ret,rEqFd) else some (.normal,sEqFd a b (w64 ((i:Int)+1)))))) (some (.exit 0,rEqFd)):=by kernel_rfl
theorem idsEqFd:(loopsAt 42).length=1∧firstId (loopAt 42 0)=4∧loopsOf (loopAt 42 0)=[]:=⟨by kernel_rfl,by kernel_rfl,by kernel_rfl⟩
def LSEqFd (S:FieldR→FieldR→Bool) (Z:St Pl):Option (Bool×LR Pl):=match seenS 32 [1,2,6,15,16,17] Z with
  | some ([.pl ⟨.fields,b⟩ .any,.fn 43 [],.bool false,.pl ⟨.fields,a⟩ .any,.int .i64 k,.int .i64 (.ofNat 0)],[]) =>
    some ((k==(a.length:Int))&&(Nat.beq a.length b.length&&Nat.ble a.length big),loopR a.length (fun i=>S (a.getD i default) (b.getD i default)) (.exit 0) rEqFd .ret fun _=>rEqFd)
  | _=>none
theorem LSEqFd_ok {S:FieldR→FieldR→Bool} (hT:TOk (tEqFd S)):SOk X0 (loopAt 42 0) (LSEqFd S):=by
  intro Z c r h hc
  unfold LSEqFd at h
  split at h
  · rename_i b a k hs
    simp only [Option.some.injEq,Prod.mk.injEq] at h
    obtain ⟨rfl,rfl⟩:=h
    simp only [Bool.and_eq_true,Nat.ble_eq,beq_iff_eq] at hc
    obtain ⟨rfl,hl,hb⟩:=hc
    have hl:=Nat.eq_of_beq_eq_true hl
    refine Goes.pre (keepOf [1,2,6,15,16,17]) ?_
    rw [seenS_mask hs]
    refine srch hT (noLoops idsEqFd.2.2) (finE_ok _ _ _) (k:=1) (Sf:=fun i=>sEqFd a b i) hb (by simp) (by simp) (fun i hi=>(bEqFd S a b i).trans ?_) ((bEqFd S a b a.length).trans (lt_f (by omega) _ _))
    rw [lt_t hi,ix_t hi,ix_t (by omega),etaFd_eq,etaFd_eq]
    cases S (a.getD i default) (b.getD i default)<;>rfl
  · simp at h
theorem eEqFd (S:FieldR→FieldR→Bool) (a b:List FieldR):evF (tEqFd S) noTL (atL 4 (LSEqFd S) noL) 1 Tryz.f42 [.pl (pFields a) .any,.pl (pFields b) .any,.fn 43 []] =
    bif ((a.length:Int) != (b.length:Int)) then some (.bool false) else ck_ (((a.length:Int)==(a.length:Int))&&(Nat.beq a.length b.length&&Nat.ble a.length big)) (bif noF (fun i=>S (a.getD i default) (b.getD i default)) a.length then some (.bool true) else some (.bool false)):=by kernel_rfl
theorem eqEqFd_sound {S:FieldR→FieldR→Bool} (hT:TOk (tEqFd S)) (a b:List FieldR):Snd 42 [.pl (pFields a) .any,.pl (pFields b) .any,.fn 43 []] (.bool (sameL S a b)):=by
  refine SoundAt.rooms fun hroom=>snd_fn (n:=1) hT (noTL_ok _ _) (f:=42) (fn:=Tryz.f42) (by kernel_rfl) (loops_of (f:=42) (fn:=Tryz.f42) (by kernel_rfl) (loops_1 idsEqFd.1 (atL_ok (fun _=>LSEqFd_ok hT) fun h=>absurd idsEqFd.2.1 h))) ((eEqFd S a b).trans ?_)
  have ha:a.length * 208≤big:=hroom (.pl (pFields a) .any) (by simp)
  unfold sameL
  rw [beq_len]
  by_cases hl:a.length=b.length
  · rw [show (a.length==b.length)=true by simp [hl],Bool.not_true,cond_false,ck_t (by rw [beq_self_eq_true,hl,Nat.beq_refl];exact ble_t (by omega)),Bool.true_and]
    cases noF (fun i=>S (a.getD i default) (b.getD i default)) a.length<;>rfl
  · rw [show (a.length==b.length)=false by simp [hl]]
    rfl
def pEqFd (S:FieldR→FieldR→Bool):List (D Pl)→Option (Bool×D Pl)
  | [.pl ⟨.fields,a⟩ .any,.pl ⟨.fields,b⟩ .any,.fn 43 []]=>some (true,.bool (sameL S a b))
  | _=>none
theorem pEqFd_ok {S:FieldR→FieldR→Bool} (hT:TOk (tEqFd S)):∀ds b d,pEqFd S ds=some (b,d)→b=true→Snd 42 ds d:=by
  intro ds b d h hb
  unfold pEqFd at h
  split at h
  · simp only [Option.some.injEq,Prod.mk.injEq] at h
    obtain ⟨_,rfl⟩:=h
    exact eqEqFd_sound hT _ _
  · simp at h
def p2Cd (f:CondR→CondR→D Pl):List (D Pl)→Option (Bool×D Pl)
  | [.agg cs,.agg ds]=>match dCond cs,dCond ds with
    | some a,some b=>some (true,f a b)
    | _,_=>none
  | _=>none
theorem p2Cd_ok {g:FuncId} {f:CondR→CondR→D Pl} (h:∀a b,Snd g [.agg (cCond a),.agg (cCond b)] (f a b)):∀ds b d,p2Cd f ds=some (b,d)→b=true→Snd g ds d:=by
  intro ds b d hp hb
  unfold p2Cd at hp
  split at hp
  · split at hp
    · rename_i h1 h2
      simp only [Option.some.injEq,Prod.mk.injEq] at hp
      obtain ⟨_,rfl⟩:=hp
      exact (h _ _).pre (.cons (RDle.agg (RDles.of2 (Ty.dec_enc (C:=X0.C) (fun _=>rfl) .conds _ _ h1))) (.cons (RDle.agg (RDles.of2 (Ty.dec_enc (C:=X0.C) (fun _=>rfl) .conds _ _ h2))) (RDles.refl _)))
    · simp at hp
  · simp at hp
def tEqCd (S:CondR→CondR→Bool):Eng.Told Pl:=tell 47 (p2Cd fun a b=>.bool (S a b)) tell0
def sEqCd (a b:List CondR) (i:Int):St Pl:=mkS 32 [(1,.pl (pConds b) .any),(2,.fn 47 []),(6,.bool false),(15,.pl (pConds a) .any),(16,dI a.length),(17,dI i)] []
def rEqCd:St Pl:=mkS 32 [(6,.bool false)] []
noncomputable def fEqCd:Fin:=finE { keep:=[1,2,6,15,16,17],lose:=[8,9] } { keep:=[6],lose:=[8,9] } { keep:=[6],lose:=[8,9] }
theorem bEqCd (S:CondR→CondR→Bool) (a b:List CondR) (i:Nat):evG (tEqCd S) noTL noL 1 (loopAt 46 0) fEqCd (sEqCd a b i) =
    lt_ i a.length (ix_ i a.length (ix_ i b.length (bif !(S (etaCd (a.getD i default)) (etaCd (b.getD i default))) then some (.ret,rEqCd) else some (.normal,sEqCd a b (w64 ((i:Int)+1)))))) (some (.exit 0,rEqCd)):=by kernel_rfl
theorem idsEqCd:(loopsAt 46).length=1∧firstId (loopAt 46 0)=4∧loopsOf (loopAt 46 0)=[]:=⟨by kernel_rfl,by kernel_rfl,by kernel_rfl⟩
def LSEqCd (S:CondR→CondR→Bool) (Z:St Pl):Option (Bool×LR Pl):=match seenS 32 [1,2,6,15,16,17] Z with
  | some ([.pl ⟨.conds,b⟩ .any,.fn 47 [],.bool false,.pl ⟨.conds,a⟩ .any,.int .i64 k,.int .i64 (.ofNat 0)],[]) =>
    some ((k==(a.length:Int))&&(Nat.beq a.length b.length&&Nat.ble a.length big),loopR a.length (fun i=>S (a.getD i default) (b.getD i default)) (.exit 0) rEqCd .ret fun _=>rEqCd)
  | _=>none
theorem LSEqCd_ok {S:CondR→CondR→Bool} (hT:TOk (tEqCd S)):SOk X0 (loopAt 46 0) (LSEqCd S):=by
  intro Z c r h hc
  unfold LSEqCd at h
  split at h
  · rename_i b a k hs
    simp only [Option.some.injEq,Prod.mk.injEq] at h
    obtain ⟨rfl,rfl⟩:=h
    simp only [Bool.and_eq_true,Nat.ble_eq,beq_iff_eq] at hc
    obtain ⟨rfl,hl,hb⟩:=hc
    have hl:=Nat.eq_of_beq_eq_true hl
    refine Goes.pre (keepOf [1,2,6,15,16,17]) ?_
    rw [seenS_mask hs]
    refine srch hT (noLoops idsEqCd.2.2) (finE_ok _ _ _) (k:=1) (Sf:=fun i=>sEqCd a b i) hb (by simp) (by simp) (fun i hi=>(bEqCd S a b i).trans ?_) ((bEqCd S a b a.length).trans (lt_f (by omega) _ _))
    rw [lt_t hi,ix_t hi,ix_t (by omega),etaCd_eq,etaCd_eq]
    cases S (a.getD i default) (b.getD i default)<;>rfl
  · simp at h
theorem eEqCd (S:CondR→CondR→Bool) (a b:List CondR):evF (tEqCd S) noTL (atL 4 (LSEqCd S) noL) 1 Tryz.f46 [.pl (pConds a) .any,.pl (pConds b) .any,.fn 47 []] =
    bif ((a.length:Int) != (b.length:Int)) then some (.bool false) else ck_ (((a.length:Int)==(a.length:Int))&&(Nat.beq a.length b.length&&Nat.ble a.length big)) (bif noF (fun i=>S (a.getD i default) (b.getD i default)) a.length then some (.bool true) else some (.bool false)):=by kernel_rfl
theorem eqEqCd_sound {S:CondR→CondR→Bool} (hT:TOk (tEqCd S)) (a b:List CondR):Snd 46 [.pl (pConds a) .any,.pl (pConds b) .any,.fn 47 []] (.bool (sameL S a b)):=by
  refine SoundAt.rooms fun hroom=>snd_fn (n:=1) hT (noTL_ok _ _) (f:=46) (fn:=Tryz.f46) (by kernel_rfl) (loops_of (f:=46) (fn:=Tryz.f46) (by kernel_rfl) (loops_1 idsEqCd.1 (atL_ok (fun _=>LSEqCd_ok hT) fun h=>absurd idsEqCd.2.1 h))) ((eEqCd S a b).trans ?_)
  have ha:a.length * 400≤big:=hroom (.pl (pConds a) .any) (by simp)
  unfold sameL
  rw [beq_len]
  by_cases hl:a.length=b.length
  · rw [show (a.length==b.length)=true by simp [hl],Bool.not_true,cond_false,ck_t (by rw [beq_self_eq_true,hl,Nat.beq_refl];exact ble_t (by omega)),Bool.true_and]
    cases noF (fun i=>S (a.getD i default) (b.getD i default)) a.length<;>rfl
  · rw [show (a.length==b.length)=false by simp [hl]]
    rfl
def pEqCd (S:CondR→CondR→Bool):List (D Pl)→Option (Bool×D Pl)
  | [.pl ⟨.conds,a⟩ .any,.pl ⟨.conds,b⟩ .any,.fn 47 []]=>some (true,.bool (sameL S a b))
  | _=>none
theorem pEqCd_ok {S:CondR→CondR→Bool} (hT:TOk (tEqCd S)):∀ds b d,pEqCd S ds=some (b,d)→b=true→Snd 46 ds d:=by
  intro ds b d h hb
  unfold pEqCd at h
  split at h
  · simp only [Option.some.injEq,Prod.mk.injEq] at h
    obtain ⟨_,rfl⟩:=h
    exact eqEqCd_sound hT _ _
  · simp at h
def p2Rs (f:ResR→ResR→D Pl):List (D Pl)→Option (Bool×D Pl)
  | [.agg cs,.agg ds]=>match xRm cs,xRm ds with
    | some a,some b=>some (true,f a b)
    | _,_=>none
  | _=>none
theorem p2Rs_ok {g:FuncId} {f:ResR→ResR→D Pl} (h:∀a b,Snd g [.agg (cRes a),.agg (cRes b)] (f a b)):∀ds b d,p2Rs f ds=some (b,d)→b=true→Snd g ds d:=by
  intro ds b d hp hb
  unfold p2Rs at hp
  split at hp
  · split at hp
    · rename_i h1 h2
      simp only [Option.some.injEq,Prod.mk.injEq] at hp
      obtain ⟨_,rfl⟩:=hp
      exact (h _ _).pre (.cons (xRm_le h1) (.cons (xRm_le h2) (RDles.refl _)))
    · simp at hp
  · simp at hp
def p2RsD (f:ResR→ResR→D Pl):List (D Pl)→Option (Bool×D Pl)
  | [.agg cs,.agg ds,.bool false]=>match xRm cs,xRm ds with
    | some a,some b=>some (true,f a b)
    | _,_=>none
  | _=>none
theorem p2RsD_ok {g:FuncId} {f:ResR→ResR→D Pl} (h:∀a b,Snd g [.agg (cRes a),.agg (cRes b),.bool false] (f a b)):∀ds b d,p2RsD f ds=some (b,d)→b=true→Snd g ds d:=by
  intro ds b d hp hb
  unfold p2RsD at hp
  split at hp
  · split at hp
    · rename_i h1 h2
      simp only [Option.some.injEq,Prod.mk.injEq] at hp
      obtain ⟨_,rfl⟩:=hp
      exact (h _ _).pre (.cons (xRm_le h1) (.cons (xRm_le h2) (RDles.refl _)))
    · simp at hp
  · simp at hp
def tEqRs (S:ResR→ResR→Bool):Eng.Told Pl:=tell 17 (p2Rs fun a b=>.bool (S a b)) tell0
def sEqRs (a b:List ResR) (i:Int):St Pl:=mkS 32 [(1,.pl (pRessm b) .any),(2,.fn 17 []),(6,.bool false),(15,.pl (pRessm a) .any),(16,dI a.length),(17,dI i)] []
def rEqRs:St Pl:=mkS 32 [(6,.bool false)] []
noncomputable def fEqRs:Fin:=finE { keep:=[1,2,6,15,16,17],lose:=[8,9] } { keep:=[6],lose:=[8,9] } { keep:=[6],lose:=[8,9] }
theorem bEqRs (S:ResR→ResR→Bool) (a b:List ResR) (i:Nat):evG (tEqRs S) noTL noL 1 (loopAt 16 0) fEqRs (sEqRs a b i) =
    lt_ i a.length (ix_ i a.length (ix_ i b.length (bif !(S (etaRm (a.getD i default)) (etaRm (b.getD i default))) then some (.ret,rEqRs) else some (.normal,sEqRs a b (w64 ((i:Int)+1)))))) (some (.exit 0,rEqRs)):=by kernel_rfl
theorem idsEqRs:(loopsAt 16).length=1∧firstId (loopAt 16 0)=4∧loopsOf (loopAt 16 0)=[]:=⟨by kernel_rfl,by kernel_rfl,by kernel_rfl⟩
def LSEqRs (S:ResR→ResR→Bool) (Z:St Pl):Option (Bool×LR Pl):=match seenS 32 [1,2,6,15,16,17] Z with
  | some ([.pl ⟨.ressm,b⟩ .any,.fn 17 [],.bool false,.pl ⟨.ressm,a⟩ .any,.int .i64 k,.int .i64 (.ofNat 0)],[]) =>
    some ((k==(a.length:Int))&&(Nat.beq a.length b.length&&Nat.ble a.length big),loopR a.length (fun i=>S (a.getD i default) (b.getD i default)) (.exit 0) rEqRs .ret fun _=>rEqRs)
  | _=>none
theorem LSEqRs_ok {S:ResR→ResR→Bool} (hT:TOk (tEqRs S)):SOk X0 (loopAt 16 0) (LSEqRs S):=by
  intro Z c r h hc
  unfold LSEqRs at h
  split at h
  · rename_i b a k hs
    simp only [Option.some.injEq,Prod.mk.injEq] at h
    obtain ⟨rfl,rfl⟩:=h
    simp only [Bool.and_eq_true,Nat.ble_eq,beq_iff_eq] at hc
    obtain ⟨rfl,hl,hb⟩:=hc
    have hl:=Nat.eq_of_beq_eq_true hl
    refine Goes.pre (keepOf [1,2,6,15,16,17]) ?_
    rw [seenS_mask hs]
    refine srch hT (noLoops idsEqRs.2.2) (finE_ok _ _ _) (k:=1) (Sf:=fun i=>sEqRs a b i) hb (by simp) (by simp) (fun i hi=>(bEqRs S a b i).trans ?_) ((bEqRs S a b a.length).trans (lt_f (by omega) _ _))
    rw [lt_t hi,ix_t hi,ix_t (by omega),etaRm_eq,etaRm_eq]
    cases S (a.getD i default) (b.getD i default)<;>rfl
  · simp at h
theorem eEqRs (S:ResR→ResR→Bool) (a b:List ResR):evF (tEqRs S) noTL (atL 4 (LSEqRs S) noL) 1 Tryz.f16 [.pl (pRessm a) .any,.pl (pRessm b) .any,.fn 17 []] =
    bif ((a.length:Int) != (b.length:Int)) then some (.bool false) else ck_ (((a.length:Int)==(a.length:Int))&&(Nat.beq a.length b.length&&Nat.ble a.length big)) (bif noF (fun i=>S (a.getD i default) (b.getD i default)) a.length then some (.bool true) else some (.bool false)):=by kernel_rfl
theorem eqEqRs_sound {S:ResR→ResR→Bool} (hT:TOk (tEqRs S)) (a b:List ResR):Snd 16 [.pl (pRessm a) .any,.pl (pRessm b) .any,.fn 17 []] (.bool (sameL S a b)):=by
  refine SoundAt.rooms fun hroom=>snd_fn (n:=1) hT (noTL_ok _ _) (f:=16) (fn:=Tryz.f16) (by kernel_rfl) (loops_of (f:=16) (fn:=Tryz.f16) (by kernel_rfl) (loops_1 idsEqRs.1 (atL_ok (fun _=>LSEqRs_ok hT) fun h=>absurd idsEqRs.2.1 h))) ((eEqRs S a b).trans ?_)
  have ha:a.length * 224≤big:=hroom (.pl (pRessm a) .any) (by simp)
  unfold sameL
  rw [beq_len]
  by_cases hl:a.length=b.length
  · rw [show (a.length==b.length)=true by simp [hl],Bool.not_true,cond_false,ck_t (by rw [beq_self_eq_true,hl,Nat.beq_refl];exact ble_t (by omega)),Bool.true_and]
    cases noF (fun i=>S (a.getD i default) (b.getD i default)) a.length<;>rfl
  · rw [show (a.length==b.length)=false by simp [hl]]
    rfl
def sTx (a b:List Str) (i:Int):St Pl:=mkS 26 [(0,.pl (pStrs a) .any),(1,.pl (pStrs b) .any),(4,.bool false),(5,dI i)] []
def rTx:St Pl:=mkS 26 [(4,.bool false)] []
noncomputable def fTx:Fin:=finE { keep:=[0,1,4,5],lose:=[] } { keep:=[4],lose:=[] } { keep:=[4],lose:=[] }
theorem bTx (a b:List Str) (i:Nat):evG tell0 noTL noL 1 (loopAt 49 0) fTx (sTx a b i) =
    lt_ i a.length (ix_ i a.length (ix_ i b.length (bif !(a.getD i []==b.getD i []) then some (.ret,rTx) else some (.normal,sTx a b (w64 ((i:Int)+1)))))) (some (.exit 0,rTx)):=by kernel_rfl
theorem idsTx:(loopsAt 49).length=1∧firstId (loopAt 49 0)=4∧loopsOf (loopAt 49 0)=[]:=⟨by kernel_rfl,by kernel_rfl,by kernel_rfl⟩
def LSTx (Z:St Pl):Option (Bool×LR Pl):=match seenS 26 [0,1,4,5] Z with
  | some ([.pl ⟨.strs,a⟩ .any,.pl ⟨.strs,b⟩ .any,.bool false,.int .i64 (.ofNat 0)],[]) =>
    some ((Nat.beq a.length b.length&&Nat.ble a.length big),loopR a.length (fun i=>(a.getD i default==b.getD i default)) (.exit 0) rTx .ret fun _=>rTx)
  | _=>none
theorem LSTx_ok:SOk X0 (loopAt 49 0) LSTx:=by
  intro Z c r h hc
  unfold LSTx at h
  split at h
  · rename_i a b hs
    simp only [Option.some.injEq,Prod.mk.injEq] at h
    obtain ⟨rfl,rfl⟩:=h
    simp only [Bool.and_eq_true,Nat.ble_eq] at hc
    obtain ⟨hl,hb⟩:=hc
    have hl:=Nat.eq_of_beq_eq_true hl
    refine Goes.pre (keepOf [0,1,4,5]) ?_
    rw [seenS_mask hs]
    refine srch (tell0_ok _) (noLoops idsTx.2.2) (finE_ok _ _ _) (k:=1) (Sf:=fun i=>sTx a b i) hb (by simp) (by simp) (fun i hi=>(bTx a b i).trans ?_) ((bTx a b a.length).trans (lt_f (by omega) _ _))
    rw [lt_t hi,ix_t hi,ix_t (by omega)]
    have e:∀l:List Str,l.getD i []=l.getD i default:=fun _=>rfl
    rw [e,e]
    cases (a.getD i default==b.getD i default)<;>rfl
  · simp at h
theorem eTx (a b:List Str):evF tell0 noTL (atL 4 LSTx noL) 1 Tryz.f49 [.pl (pStrs a) .any,.pl (pStrs b) .any] =
    bif ((a.length:Int) != (b.length:Int)) then some (.bool false) else ck_ ((Nat.beq a.length b.length&&Nat.ble a.length big)) (bif noF (fun i=>(a.getD i default==b.getD i default)) a.length then some (.bool true) else some (.bool false)):=by kernel_rfl
theorem eqTx_sound (a b:List Str):Snd 49 [.pl (pStrs a) .any,.pl (pStrs b) .any] (.bool (sameL (fun x y=>x==y) a b)):=by
  refine SoundAt.rooms fun hroom=>snd_fn (n:=1) (tell0_ok _) (noTL_ok _ _) (f:=49) (fn:=Tryz.f49) (by kernel_rfl) (loops_of (f:=49) (fn:=Tryz.f49) (by kernel_rfl) (loops_1 idsTx.1 (atL_ok (fun _=>LSTx_ok) fun h=>absurd idsTx.2.1 h))) ((eTx a b).trans ?_)
  have ha:a.length * 16≤big:=hroom (.pl (pStrs a) .any) (by simp)
  unfold sameL
  rw [beq_len]
  by_cases hl:a.length=b.length
  · rw [show (a.length==b.length)=true by simp [hl],Bool.not_true,cond_false,ck_t (by rw [hl,Nat.beq_refl];exact ble_t (by omega)),Bool.true_and]
    cases noF (fun i=>(a.getD i default==b.getD i default)) a.length<;>rfl
  · rw [show (a.length==b.length)=false by simp [hl]]
    rfl
def pTx:List (D Pl)→Option (Bool×D Pl)
  | [.pl ⟨.strs,a⟩ .any,.pl ⟨.strs,b⟩ .any]=>some (true,.bool (sameL (fun x y=>x==y) a b))
  | _=>none
theorem pTx_ok:∀ds b d,pTx ds=some (b,d)→b=true→Snd 49 ds d:=by
  intro ds b d h hb
  unfold pTx at h
  split at h
  · simp only [Option.some.injEq,Prod.mk.injEq] at h
    obtain ⟨_,rfl⟩:=h
    exact eqTx_sound  _ _
  · simp at h
def sSf (a b:List FieldR) (i:Int):St Pl:=mkS 45 [(0,.pl (pFields a) .any),(1,.pl (pFields b) .any),(2,.bool false),(6,.bool false),(7,dI i)] []
def rSf:St Pl:=mkS 45 [(6,.bool false)] []
noncomputable def fSf:Fin:=finE { keep:=[0,1,2,6,7],lose:=[] } { keep:=[6],lose:=[] } { keep:=[6],lose:=[] }
theorem bSf (a b:List FieldR) (i:Nat):evG tRm noTL noL 1 (loopAt 21 0) fSf (sSf a b i) =
    lt_ i a.length (ix_ i a.length (ix_ i b.length (ixo_ i a.length ((!((a.getD i default).name==(b.getD i default).name))==false) (ixo_ i b.length ((!((a.getD i default).name==(b.getD i default).name))==false) (bif ((!((a.getD i default).name==(b.getD i default).name))==false) then (bif !(DSE.sameE (etaE (a.getD i default).e) (etaE (b.getD i default).e)) then some (.ret,rSf) else some (.normal,sSf a b (w64 ((i:Int)+1)))) else some (.ret,rSf)))))) (some (.exit 0,rSf)):=by kernel_rfl
theorem idsSf:(loopsAt 21).length=1∧firstId (loopAt 21 0)=4∧loopsOf (loopAt 21 0)=[]:=⟨by kernel_rfl,by kernel_rfl,by kernel_rfl⟩
def LSSf (Z:St Pl):Option (Bool×LR Pl):=match seenS 45 [0,1,2,6,7] Z with
  | some ([.pl ⟨.fields,a⟩ .any,.pl ⟨.fields,b⟩ .any,.bool false,.bool false,.int .i64 (.ofNat 0)],[]) =>
    some ((Nat.beq a.length b.length&&Nat.ble a.length big),loopR a.length (fun i=>sameFd (a.getD i default) (b.getD i default)) (.exit 0) rSf .ret fun _=>rSf)
  | _=>none
theorem LSSf_ok:SOk X0 (loopAt 21 0) LSSf:=by
  intro Z c r h hc
  unfold LSSf at h
  split at h
  · rename_i a b hs
    simp only [Option.some.injEq,Prod.mk.injEq] at h
    obtain ⟨rfl,rfl⟩:=h
    simp only [Bool.and_eq_true,Nat.ble_eq] at hc
    obtain ⟨hl,hb⟩:=hc
    have hl:=Nat.eq_of_beq_eq_true hl
    refine Goes.pre (keepOf [0,1,2,6,7]) ?_
    rw [seenS_mask hs]
    refine srch tRm_ok (noLoops idsSf.2.2) (finE_ok _ _ _) (k:=1) (Sf:=fun i=>sSf a b i) hb (by simp) (by simp) (fun i hi=>(bSf a b i).trans ?_) ((bSf a b a.length).trans (lt_f (by omega) _ _))
    rw [lt_t hi,ix_t hi,ix_t (by omega)]
    simp only [ixo_t hi,ixo_t (show i < b.length by omega),etaE_eq]
    unfold sameFd
    cases (a.getD i default).name==(b.getD i default).name<;>cases DSE.sameE (a.getD i default).e (b.getD i default).e<;>rfl
  · simp at h
theorem eSf (a b:List FieldR):evF tRm noTL (atL 4 LSSf noL) 1 Tryz.f21 [.pl (pFields a) .any,.pl (pFields b) .any,.bool false] =
    bif ((a.length:Int) != (b.length:Int)) then some (.bool false) else ck_ ((Nat.beq a.length b.length&&Nat.ble a.length big)) (bif noF (fun i=>sameFd (a.getD i default) (b.getD i default)) a.length then some (.bool true) else some (.bool false)):=by kernel_rfl
theorem eqSf_sound (a b:List FieldR):Snd 21 [.pl (pFields a) .any,.pl (pFields b) .any,.bool false] (.bool (sameL sameFd a b)):=by
  refine SoundAt.rooms fun hroom=>snd_fn (n:=1) tRm_ok (noTL_ok _ _) (f:=21) (fn:=Tryz.f21) (by kernel_rfl) (loops_of (f:=21) (fn:=Tryz.f21) (by kernel_rfl) (loops_1 idsSf.1 (atL_ok (fun _=>LSSf_ok) fun h=>absurd idsSf.2.1 h))) ((eSf a b).trans ?_)
  have ha:a.length * 208≤big:=hroom (.pl (pFields a) .any) (by simp)
  unfold sameL
  rw [beq_len]
  by_cases hl:a.length=b.length
  · rw [show (a.length==b.length)=true by simp [hl],Bool.not_true,cond_false,ck_t (by rw [hl,Nat.beq_refl];exact ble_t (by omega)),Bool.true_and]
    cases noF (fun i=>sameFd (a.getD i default) (b.getD i default)) a.length<;>rfl
  · rw [show (a.length==b.length)=false by simp [hl]]
    rfl
def pSf:List (D Pl)→Option (Bool×D Pl)
  | [.pl ⟨.fields,a⟩ .any,.pl ⟨.fields,b⟩ .any,.bool false]=>some (true,.bool (sameL sameFd a b))
  | _=>none
theorem pSf_ok:∀ds b d,pSf ds=some (b,d)→b=true→Snd 21 ds d:=by
  intro ds b d h hb
  unfold pSf at h
  split at h
  · simp only [Option.some.injEq,Prod.mk.injEq] at h
    obtain ⟨_,rfl⟩:=h
    exact eqSf_sound  _ _
  · simp at h
def sSc (a b:List CondR) (i:Int):St Pl:=mkS 60 [(0,.pl (pConds a) .any),(1,.pl (pConds b) .any),(2,.bool false),(6,.bool false),(7,dI i)] []
def rSc:St Pl:=mkS 60 [(6,.bool false)] []
noncomputable def fSc:Fin:=finE { keep:=[0,1,2,6,7],lose:=[] } { keep:=[6],lose:=[] } { keep:=[6],lose:=[] }
theorem bSc (a b:List CondR) (i:Nat):evG tRm noTL noL 1 (loopAt 22 0) fSc (sSc a b i) =
    lt_ i a.length (ix_ i a.length (ix_ i b.length (ixo_ i a.length ((!((a.getD i default).name==(b.getD i default).name))==false) (ixo_ i b.length ((!((a.getD i default).name==(b.getD i default).name))==false) (bif ((!((a.getD i default).name==(b.getD i default).name))==false) then ixo_ i a.length ((!(DSE.sameE (etaE (a.getD i default).if') (etaE (b.getD i default).if')))==false) (ixo_ i b.length ((!(DSE.sameE (etaE (a.getD i default).if') (etaE (b.getD i default).if')))==false) (bif ((!(DSE.sameE (etaE (a.getD i default).if') (etaE (b.getD i default).if')))==false) then (bif !(DSE.sameE (etaE (a.getD i default).say) (etaE (b.getD i default).say)) then some (.ret,rSc) else some (.normal,sSc a b (w64 ((i:Int)+1)))) else some (.ret,rSc))) else ixo_ i a.length false (ixo_ i b.length false (some (.ret,rSc)))))))) (some (.exit 0,rSc)):=by kernel_rfl
theorem idsSc:(loopsAt 22).length=1∧firstId (loopAt 22 0)=4∧loopsOf (loopAt 22 0)=[]:=⟨by kernel_rfl,by kernel_rfl,by kernel_rfl⟩
def LSSc (Z:St Pl):Option (Bool×LR Pl):=match seenS 60 [0,1,2,6,7] Z with
  | some ([.pl ⟨.conds,a⟩ .any,.pl ⟨.conds,b⟩ .any,.bool false,.bool false,.int .i64 (.ofNat 0)],[]) =>
    some ((Nat.beq a.length b.length&&Nat.ble a.length big),loopR a.length (fun i=>sameCd (a.getD i default) (b.getD i default)) (.exit 0) rSc .ret fun _=>rSc)
  | _=>none
theorem LSSc_ok:SOk X0 (loopAt 22 0) LSSc:=by
  intro Z c r h hc
  unfold LSSc at h
  split at h
  · rename_i a b hs
    simp only [Option.some.injEq,Prod.mk.injEq] at h
    obtain ⟨rfl,rfl⟩:=h
    simp only [Bool.and_eq_true,Nat.ble_eq] at hc
    obtain ⟨hl,hb⟩:=hc
    have hl:=Nat.eq_of_beq_eq_true hl
    refine Goes.pre (keepOf [0,1,2,6,7]) ?_
    rw [seenS_mask hs]
    refine srch tRm_ok (noLoops idsSc.2.2) (finE_ok _ _ _) (k:=1) (Sf:=fun i=>sSc a b i) hb (by simp) (by simp) (fun i hi=>(bSc a b i).trans ?_) ((bSc a b a.length).trans (lt_f (by omega) _ _))
    rw [lt_t hi,ix_t hi,ix_t (by omega)]
    simp only [ixo_t hi,ixo_t (show i < b.length by omega),etaE_eq]
    unfold sameCd
    cases (a.getD i default).name==(b.getD i default).name<;>cases DSE.sameE (a.getD i default).if' (b.getD i default).if'<;>cases DSE.sameE (a.getD i default).say (b.getD i default).say<;>rfl
  · simp at h
theorem eSc (a b:List CondR):evF tRm noTL (atL 4 LSSc noL) 1 Tryz.f22 [.pl (pConds a) .any,.pl (pConds b) .any,.bool false] =
    bif ((a.length:Int) != (b.length:Int)) then some (.bool false) else ck_ ((Nat.beq a.length b.length&&Nat.ble a.length big)) (bif noF (fun i=>sameCd (a.getD i default) (b.getD i default)) a.length then some (.bool true) else some (.bool false)):=by kernel_rfl
theorem eqSc_sound (a b:List CondR):Snd 22 [.pl (pConds a) .any,.pl (pConds b) .any,.bool false] (.bool (sameL sameCd a b)):=by
  refine SoundAt.rooms fun hroom=>snd_fn (n:=1) tRm_ok (noTL_ok _ _) (f:=22) (fn:=Tryz.f22) (by kernel_rfl) (loops_of (f:=22) (fn:=Tryz.f22) (by kernel_rfl) (loops_1 idsSc.1 (atL_ok (fun _=>LSSc_ok) fun h=>absurd idsSc.2.1 h))) ((eSc a b).trans ?_)
  have ha:a.length * 400≤big:=hroom (.pl (pConds a) .any) (by simp)
  unfold sameL
  rw [beq_len]
  by_cases hl:a.length=b.length
  · rw [show (a.length==b.length)=true by simp [hl],Bool.not_true,cond_false,ck_t (by rw [hl,Nat.beq_refl];exact ble_t (by omega)),Bool.true_and]
    cases noF (fun i=>sameCd (a.getD i default) (b.getD i default)) a.length<;>rfl
  · rw [show (a.length==b.length)=false by simp [hl]]
    rfl
def pSc:List (D Pl)→Option (Bool×D Pl)
  | [.pl ⟨.conds,a⟩ .any,.pl ⟨.conds,b⟩ .any,.bool false]=>some (true,.bool (sameL sameCd a b))
  | _=>none
theorem pSc_ok:∀ds b d,pSc ds=some (b,d)→b=true→Snd 22 ds d:=by
  intro ds b d h hb
  unfold pSc at h
  split at h
  · simp only [Option.some.injEq,Prod.mk.injEq] at h
    obtain ⟨_,rfl⟩:=h
    exact eqSc_sound  _ _
  · simp at h
end DS
end Go.Proofs.YtobleaffkomcmaaGreatDoor
namespace Go.Proofs.YtobleaffkomcmaaGreatDoor
open Go.Eng
set_option maxRecDepth 100000
namespace DS
open Dec Res
theorem tFdS_ok:TOk (tEqFd sameFd):=tell_ok (p2Fd_ok fdS_sound) (tell0_ok _)
theorem tCdS_ok:TOk (tEqCd sameCd):=tell_ok (p2Cd_ok cdS_sound) (tell0_ok _)
theorem tInS_ok:TOk (tEqIn sameIn):=tell_ok (p2In_ok in_sound) (tell0_ok _)
def tFs:Eng.Told Pl:=tell 42 (pEqFd sameFd) tell0
theorem tFs_ok:TOk tFs:=tell_ok (pEqFd_ok tFdS_ok) (tell0_ok _)
theorem eFs (a b:List FieldR):evF tFs noTL noL 1 Tryz.f15 [.pl (pFields a) .any,.pl (pFields b) .any]=some (.bool (sameL sameFd a b)):=by kernel_rfl
theorem fs_sound (a b:List FieldR):Snd 15 [.pl (pFields a) .any,.pl (pFields b) .any] (.bool (sameL sameFd a b)) :=
  snd_fn (n:=1) tFs_ok (noTL_ok _ _) (f:=15) (fn:=Tryz.f15) (by kernel_rfl) (fun _ _ b _=>noL_ok _ b) (eFs a b)
def tCs:Eng.Told Pl:=tell 46 (pEqCd sameCd) tell0
theorem tCs_ok:TOk tCs:=tell_ok (pEqCd_ok tCdS_ok) (tell0_ok _)
theorem eCs (a b:List CondR):evF tCs noTL noL 1 Tryz.f18 [.pl (pConds a) .any,.pl (pConds b) .any]=some (.bool (sameL sameCd a b)):=by kernel_rfl
theorem cs_sound (a b:List CondR):Snd 18 [.pl (pConds a) .any,.pl (pConds b) .any] (.bool (sameL sameCd a b)) :=
  snd_fn (n:=1) tCs_ok (noTL_ok _ _) (f:=18) (fn:=Tryz.f18) (by kernel_rfl) (fun _ _ b _=>noL_ok _ b) (eCs a b)
def pFs:List (D Pl)→Option (Bool×D Pl)
  | [.pl ⟨.fields,a⟩ .any,.pl ⟨.fields,b⟩ .any]=>some (true,.bool (sameL sameFd a b))
  | _=>none
theorem pFs_ok:∀ds b d,pFs ds=some (b,d)→b=true→Snd 15 ds d:=by
  intro ds b d h hb
  unfold pFs at h
  split at h
  · simp only [Option.some.injEq,Prod.mk.injEq] at h
    obtain ⟨_,rfl⟩:=h
    exact fs_sound _ _
  · simp at h
def pCs:List (D Pl)→Option (Bool×D Pl)
  | [.pl ⟨.conds,a⟩ .any,.pl ⟨.conds,b⟩ .any]=>some (true,.bool (sameL sameCd a b))
  | _=>none
theorem pCs_ok:∀ds b d,pCs ds=some (b,d)→b=true→Snd 18 ds d:=by
  intro ds b d h hb
  unfold pCs at h
  split at h
  · simp only [Option.some.injEq,Prod.mk.injEq] at h
    obtain ⟨_,rfl⟩:=h
    exact cs_sound _ _
  · simp at h
def pEq2:List (D Pl)→Option (Bool×D Pl)
  | [.pl ⟨.strs,a⟩ .any,.pl ⟨.strs,b⟩ .any]=>some (true,.bool (a==b))
  | _=>none
theorem pEq2_ok:∀ds b d,pEq2 ds=some (b,d)→b=true→Snd 45 ds d:=by
  intro ds b d h hb
  unfold pEq2 at h
  split at h
  · simp only [Option.some.injEq,Prod.mk.injEq] at h
    obtain ⟨_,rfl⟩:=h
    exact DSE.equal_sound _ _
  · simp at h
def tRsP:Eng.Told Pl:=tell 15 pFs (tell 18 pCs (tell 44 pMb (tell 45 pEq2 tell0)))
theorem tRsP_ok:TOk tRsP:=tell_ok pFs_ok (tell_ok pCs_ok (tell_ok pMb_ok (tell_ok pEq2_ok (tell0_ok _))))
def an (a:Bool) (k:Option (D Pl)):Option (D Pl):=bif a==true then k else some (.bool false)
def rsV (a b:ResR) (x y:Option ExprR) (z w:Option ExprR):Option (D Pl) :=
  an (bif a.ty==b.ty then a.name==b.name else false) (an (sameL sameFd a.fields b.fields) (an (sameMb x y) (an (sameMb z w) (
    an (bif (bif a.depends==b.depends then a.guard==b.guard else false) then a.first==b.first else false) (an (a.ignore==b.ignore) (an (a.trigger==b.trigger) (an (sameL sameCd a.pre b.pre) (some (.bool (sameL sameCd a.post b.post))))))))))
theorem eRs (a b:ResR) (c1 c2 e1 e2:ExprR) (p q r s:Bool):evF tRsP noTL noL 1 Tryz.f17 [.agg (cRes (withC a (oE p c1) (oE r e1))),.agg (cRes (withC b (oE q c2) (oE s e2)))] =
    rsV a b (oE p (etaE c1)) (oE q (etaE c2)) (oE r (etaE e1)) (oE s (etaE e2)):=by
  cases p<;>cases q<;>cases r<;>cases s<;>kernel_rfl
theorem rsV_eq (a b:ResR):rsV a b a.count b.count a.each b.each=some (.bool (sameRs a b)):=by
  unfold rsV sameRs an
  cases a.ty==b.ty<;>cases a.name==b.name<;>cases sameL sameFd a.fields b.fields<;>cases sameMb a.count b.count<;>cases sameMb a.each b.each<;>try rfl
  cases a.depends==b.depends<;>cases a.guard==b.guard<;>cases a.first==b.first<;>cases a.ignore==b.ignore<;>cases a.trigger==b.trigger<;>cases sameL sameCd a.pre b.pre<;>rfl
theorem withC_self (a:ResR):withC a a.count a.each=a:=rfl
theorem rs_sound (a b:ResR):Snd 17 [.agg (cRes a),.agg (cRes b)] (.bool (sameRs a b)):=by
  obtain ⟨p,c1,h1⟩:=oE_of a.count
  obtain ⟨q,c2,h2⟩:=oE_of b.count
  obtain ⟨r,e1,h3⟩:=oE_of a.each
  obtain ⟨s,e2,h4⟩:=oE_of b.each
  have key:=eRs a b c1 c2 e1 e2 p q r s
  rw [etaE_eq,etaE_eq,etaE_eq,etaE_eq,←h1,←h2,←h3,←h4,withC_self,withC_self,rsV_eq] at key
  exact snd_fn (n:=1) tRsP_ok (noTL_ok _ _) (f:=17) (fn:=Tryz.f17) (by kernel_rfl) (fun _ _ b _=>noL_ok _ b) key
def tRsD:Eng.Told Pl:=tell 21 pSf (tell 22 pSc (tell 50 pMd (tell 49 pTx tell0)))
theorem tRsD_ok:TOk tRsD:=tell_ok pSf_ok (tell_ok pSc_ok (tell_ok pMd_ok (tell_ok pTx_ok (tell0_ok _))))
def ng (c:Bool) (k:Option (D Pl)):Option (D Pl):=bif ((!c)==false) then k else some (.bool false)
def txB (a b:List Str):Bool:=sameL (fun x y=>x==y) a b
def rdV (a b:ResR) (x y:Option ExprR) (z w:Option ExprR):Option (D Pl) :=
  bif (bif (bif (bif (bif !(a.ty==b.ty) then true else !(a.name==b.name)) then true else a.guard != b.guard) then true else a.first != b.first) then true else false) then some (.bool false) else
    ng (txB a.depends b.depends) (ng (txB a.ignore b.ignore) (bif !(txB a.trigger b.trigger) then some (.bool false) else an (sameL sameFd a.fields b.fields) (an (sameMb x y) (an (sameMb z w) (an (sameL sameCd a.pre b.pre) (some (.bool (sameL sameCd a.post b.post))))))))
theorem eRd (a b:ResR) (c1 c2 e1 e2:ExprR) (p q r s:Bool):evF tRsD noTL noL 1 Tryz.f20 [.agg (cRes (withC a (oE p c1) (oE r e1))),.agg (cRes (withC b (oE q c2) (oE s e2))),.bool false] =
    rdV a b (oE p (etaE c1)) (oE q (etaE c2)) (oE r (etaE e1)) (oE s (etaE e2)):=by
  cases p<;>cases q<;>cases r<;>cases s<;>kernel_rfl
theorem rdV_eq (a b:ResR):rdV a b a.count b.count a.each b.each=some (.bool (sameRs a b)):=by
  unfold rdV sameRs an ng txB
  rw [sameTx_eq,sameTx_eq,sameTx_eq,bne,bne]
  cases a.ty==b.ty<;>cases a.name==b.name<;>cases a.guard==b.guard<;>cases a.first==b.first<;>cases a.depends==b.depends<;>cases a.ignore==b.ignore<;>cases a.trigger==b.trigger<;>try (simp;done)
  cases sameL sameFd a.fields b.fields<;>cases sameMb a.count b.count<;>cases sameMb a.each b.each<;>cases sameL sameCd a.pre b.pre<;>rfl
theorem rd_sound' (a b:ResR):Snd 20 [.agg (cRes a),.agg (cRes b),.bool false] (.bool (sameRs a b)):=by
  obtain ⟨p,c1,h1⟩:=oE_of a.count
  obtain ⟨q,c2,h2⟩:=oE_of b.count
  obtain ⟨r,e1,h3⟩:=oE_of a.each
  obtain ⟨s,e2,h4⟩:=oE_of b.each
  have key:=eRd a b c1 c2 e1 e2 p q r s
  rw [etaE_eq,etaE_eq,etaE_eq,etaE_eq,←h1,←h2,←h3,←h4,withC_self,withC_self,rdV_eq] at key
  exact snd_fn (n:=1) tRsD_ok (noTL_ok _ _) (f:=20) (fn:=Tryz.f20) (by kernel_rfl) (fun _ _ b _=>noL_ok _ b) key
end DS
end Go.Proofs.YtobleaffkomcmaaGreatDoor
