/-
  'suretylaw15.RefsLocals' answers true, whatever the text.
-/
import Derived.Test.YtpjfilgmfbdfoaaGreatLocLaw
import Derived.Test.YtpjfilgmfbdfoaaGreatOfQ
import Derived.Test.YtpjfilgmfbdfoaaGreatTotL
import Derived.Test.YtpjfilgmfbdfoaaGreatDeclR
namespace Go.Proofs.YtpjfilgmfbdfoaaGreat
open Go.Eng
set_option maxRecDepth 100000
namespace Lcl
def pTrue:List (D Pl)→Option (Bool×D Pl)
  | []=>some (true,.bool true)
  | _=>none
def pLs (F:ExprR→List RefR) (LO:CfgR→Option (List Int)):List (D Pl)→Option (Bool×D Pl)
  | [.agg cs]=>match xCfg cs with
    | some c=>some (okFs F c.locals&&Nat.ble c.locals.length 1000000000,encL (LO c))
    | none=>none
  | _=>none
theorem pLs_ok {F:ExprR→List RefR} (hF:SndOf F):∀ds b d,pLs F (locO F) ds=some (b,d)→b=true→Snd 6 ds d:=by
  intro ds b d h hb
  unfold pLs at h
  split at h
  · split at h
    · rename_i h1
      simp only [Option.some.injEq,Prod.mk.injEq] at h
      obtain ⟨rfl,rfl⟩:=h
      rw [Bool.and_eq_true,Nat.ble_eq] at hb
      rw [xCfg_eq h1]
      exact locals_sound hF _ hb.1 hb.2
    · simp at h
  · simp at h
abbrev Rd:=Str→CfgR×DwR
def encR (r:CfgR×DwR):D Pl:=.tup [.agg (cCfg r.1),.agg (cDw r.2)]
noncomputable def tLw (P:Rd) (F:ExprR→List RefR) (LO:CfgR→Option (List Int)) (I:List FieldR→Str→Int):Eng.Told Pl:=tell 4 (pS fun s=>encR (P s)) (tell 6 (pLs F LO) (tell 7 (pOfE F) (tell 8 (pLoc fun c s=>dI (I c.locals s)) (tell 5 pTrue tell0))))
def sW1 (c:CfgR) (l at':List Int) (i:Int):St Pl:=mkS 149 [(3,.ptr 3 0),(5,.pl (pInts l) .any),(7,.arr 53),(8,dI i)] [(53,.arr false (pInts at')),(3,.box false (cCfg c))]
def rW1:St Pl:=mkS 149 [(2,.bool false)] []
def xW1 (c:CfgR) (l a:List Int):St Pl:=mkS 149 [(3,.ptr 3 0),(5,.pl (pInts l) .any),(7,.arr 53)] [(53,.arr false (pInts a)),(3,.box false (cCfg c))]
noncomputable def fW1:Fin:=finE { keep:=[3,5,7,8],lose:=[4],ord:=[53,3] } { keep:=[3,5,7],lose:=[4],ord:=[53,3] } { keep:=[2],lose:=[3,4,53] }
def ixz (x:Int) (n:Nat) (g:Bool) (k:Option (Ex×St Pl)):Option (Ex×St Pl):=bif (decide (0≤x)&&decide (x < (n:Int)))||!g then k else none
def sW2 (c:CfgR) (l a:List Int) (i:Int):St Pl:=mkS 149 [(3,.ptr 3 0),(5,.pl (pInts l) .any),(7,.arr 53),(9,dI i)] [(53,.arr false (pInts a)),(3,.box false (cCfg c))]
def sW3 (c:CfgR) (l a:List Int) (i:Int) (r:List RefR) (k:Int):St Pl:=mkS 149 [(3,.ptr 3 0),(5,.pl (pInts l) .any),(7,.arr 53),(9,dI i),(10,.pl (pRefs r) .any),(11,dI k)] [(53,.arr false (pInts a)),(3,.box false (cCfg c))]
noncomputable def fW3:Fin:=finE { keep:=[3,5,7,9,10,11],ord:=[53,3] } { keep:=[3,5,7,9],ord:=[53,3] } { keep:=[2],lose:=[3,4,53] }
noncomputable def fW2:Fin:=finE { keep:=[3,5,7,9],ord:=[53,3] } { keep:=[3,5,7],ord:=[53,3] } { keep:=[2],lose:=[3,4,53] }
theorem idsW:(loopsAt 3).length=3∧firstId (loopAt 3 0)=9∧firstId (loopAt 3 1)=15∧firstId (loopAt 3 2)=19 :=
  ⟨by kernel_rfl,by kernel_rfl,by kernel_rfl,by kernel_rfl⟩
theorem inW:loopsOf (loopAt 3 0)=[]∧loopsOf (loopAt 3 2)=[]∧loopsOf (loopAt 3 1)=[loopAt 3 2]:=⟨by kernel_rfl,by kernel_rfl,by kernel_rfl⟩
section
variable (P:Rd) (F:ExprR→List RefR) (LO:CfgR→Option (List Int)) (I:List FieldR→Str→Int)
theorem bW1 (c:CfgR) (l a:List Int) (i:Nat):evG (tLw P F LO I) noTL noL 1 (loopAt 3 0) fW1 (sW1 c l a i) =
  (let x:=l.getD i 0
   let o:=bif decide (x < 0) then true else decide (x ≥ (a.length:Int))
   lt_ i l.length (ix_ i l.length (ixo_ i l.length (decide (x < 0)==false) (ixo_ i l.length (o==false) (ixz x a.length (o==false) (bif (bif o then true else a.getD x.toNat 0 != 0) then some (.ret,rW1) else ix_ i l.length (ixz x a.length true (ck_ (inB x.toNat a.length&&true) (some (.normal,sW1 c l (a.set x.toNat (w64 ((i:Int)+1))) (w64 ((i:Int)+1))))))))))) (some (.exit 0,xW1 c l a))):=by kernel_rfl
theorem bW3 (c:CfgR) (l a:List Int) (i:Nat) (r:List RefR) (k:Nat):evG (tLw P F LO I) noTL noL 1 (loopAt 3 2) fW3 (sW3 c l a i r k) =
  (let x:=r.getD k default
   let j:=I c.locals x.name
   let g:=bif x.root==n_local then decide (j ≥ 0) else false
   lt_ k r.length (ix_ k r.length (ix_ k r.length (ixz j a.length (g==true) (ixz i a.length (g==true) (bif (bif g then decide (a.getD j.toNat 0 ≥ a.getD i 0) else false) then some (.ret,rW1) else some (.normal,sW3 c l a i r (w64 ((k:Int)+1)))))))) (some (.exit 4,sW2 c l a i))):=by kernel_rfl
end
def w3ok (I:List FieldR→Str→Int) (c:CfgR) (a:List Int) (i:Nat) (x:RefR):Bool :=
  bif (bif x.root==n_local then decide (I c.locals x.name ≥ 0) else false) then (decide (I c.locals x.name < (a.length:Int))&&Nat.blt i a.length)&&!(decide (a.getD (I c.locals x.name).toNat 0 ≥ a.getD i 0)) else true
def K3 (I:List FieldR→Str→Int) (c:CfgR) (a:List Int) (i:Nat) (r:List RefR):Bool:=r.all (w3ok I c a i)&&Nat.ble r.length big
def FW3h:Fix Pl:={ keep:=[3,5,7,9,10,11],lose:=[4],ord:=[53,3] }
noncomputable def LSW3 (K:CfgR→List Int→Nat→List RefR→Bool) (S:St Pl):Option (Bool×LR Pl):=match seenS 149 [3,5,7,9,10,11] (fixS X0.C FW3h S) with
  | some ([.ptr 3 0,.pl ⟨.ints,l⟩ .any,.arr 53,.int .i64 (.ofNat i),.pl ⟨.refs,r⟩ .any,.int .i64 (.ofNat 0)],[(53,.arr false ⟨.ints,a⟩),(3,.box false cs)])=>(match xCfg cs with
    | some c=>some (K c a i r,.leaf (.exit 4) (sW2 c l a i))
    | none=>none)
  | _=>none
theorem ixz_t {x:Int} {n:Nat} {g:Bool} (h:g=true→0≤x∧x < (n:Int)) (k:Option (Ex×St Pl)):ixz x n g k=k:=by
  unfold ixz
  cases g with
  | false=>simp
  | true =>
    obtain ⟨h1,h2⟩:=h rfl
    rw [decide_eq_true h1,decide_eq_true h2];rfl
theorem LSW3_ok {P:Rd} {F:ExprR→List RefR} {LO:CfgR→Option (List Int)} {I:List FieldR→Str→Int} (hT:TOk (tLw P F LO I)):SOk X0 (loopAt 3 2) (LSW3 (K3 I)):=by
  intro S c r h hc
  unfold LSW3 at h
  split at h
  · rename_i l i r a cs hs
    split at h
    · rename_i c hx
      simp only [Option.some.injEq,Prod.mk.injEq] at h
      obtain ⟨rfl,rfl⟩:=h
      unfold K3 at hc
      rw [Bool.and_eq_true,Nat.ble_eq] at hc
      rw [xCfg_eq hx] at hs
      refine Goes.weakPre (Weak.fix xok FW3h S) (Goes.pre (keepOf [3,5,7,9,10,11]) ?_)
      rw [seenS_mask hs]
      refine loop_all (Sf:=fun k:Nat=>sW3 c l a i r k) (n:=r.length) (by simp) (fun k hk=>?_) (goes_ofG hT (noTL_ok _ _) (finE_ok _ _ _) (noLoops inW.2.1) ((bW3 P F LO I c l a i r r.length).trans (lt_f (by omega) _ _)))
      refine goes_ofG hT (noTL_ok _ _) (finE_ok _ _ _) (noLoops inW.2.1) ((bW3 P F LO I c l a i r k).trans ?_)
      have h1:=List.all_eq_true.1 hc.1 _ (getD_mem (d:=default) hk)
      unfold w3ok at h1
      simp only
      rw [lt_t hk,ix_t hk,ix_t hk,show w64 ((k:Int)+1)=((k+1:Nat):Int) from wrap_nat (show k≤big by omega)]
      generalize r.getD k default=x at *
      cases hg:(bif x.root==n_local then decide (I c.locals x.name ≥ 0) else false) with
      | false =>
        rw [ixz_t (fun h=>by cases h),ixz_t (fun h=>by cases h)]
        rfl
      | true =>
        rw [hg,cond_true,Bool.and_eq_true,Bool.and_eq_true,decide_eq_true_eq,Nat.blt_eq] at h1
        have hj:I c.locals x.name ≥ 0:=by
          cases hr:x.root==n_local with
          | false=>rw [hr] at hg;cases hg
          | true=>rw [hr] at hg;exact of_decide_eq_true hg
        rw [ixz_t (fun _=>⟨hj,h1.1.1⟩),ixz_t (fun _=>⟨by omega,by have:=h1.1.2;omega⟩)]
        have h2:decide (a.getD (I c.locals x.name).toNat 0 ≥ a.getD i 0)=false:=by simpa using h1.2
        rw [h2]
        rfl
    · simp at h
  · simp at h
def atA (a:List Int) (l:List Int):Nat→List Int
  | 0=>a
  | i+1=>(atA a l i).set (l.getD i 0).toNat ((i:Int)+1)
theorem atA_eq (n:Nat) (l:List Int):∀i,atA (List.replicate n 0) l i=atF n l i
  | 0=>rfl
  | i+1=>by rw [atA,atF,atA_eq n l i]
theorem atA_len (a l:List Int):∀i,(atA a l i).length=a.length
  | 0=>rfl
  | i+1=>by rw [atA,List.length_set,atA_len a l i]
def K1 (l a:List Int):Bool:=((List.range l.length).all fun i=>(decide (0≤l.getD i 0)&&decide (l.getD i 0 < (a.length:Int)))&&(atA a l i).getD (l.getD i 0).toNat 0==0)&&Nat.ble l.length big
def E1 (l a:List Int):List Int:=atA a l l.length
def FW1h:Fix Pl:={ keep:=[3,5,7,8],lose:=[4],ord:=[53,3] }
noncomputable def LSW1 (K:List Int→List Int→Bool) (E:List Int→List Int→List Int) (S:St Pl):Option (Bool×LR Pl):=match seenS 149 [3,5,7,8] (fixS X0.C FW1h S) with
  | some ([.ptr 3 0,.pl ⟨.ints,l⟩ .any,.arr 53,.int .i64 (.ofNat 0)],[(53,.arr false ⟨.ints,a⟩),(3,.box false cs)])=>(match xCfg cs with
    | some c=>some (K l a,.leaf (.exit 0) (xW1 c l (E l a)))
    | none=>none)
  | _=>none
theorem w1_step (P:Rd) (F:ExprR→List RefR) (LO:CfgR→Option (List Int)) (I:List FieldR→Str→Int) (c:CfgR) (l a:List Int) {i:Nat} (hi:i < l.length) (hb:l.length≤big) (h2:0≤l.getD i 0) (h3:l.getD i 0 < (a.length:Int)) (h4:(atA a l i).getD (l.getD i 0).toNat 0=0) :
    evG (tLw P F LO I) noTL noL 1 (loopAt 3 0) fW1 (sW1 c l (atA a l i) i)=some (.normal,sW1 c l (atA a l (i+1)) ((i+1:Nat):Int)):=by
  rw [bW1]
  have hlen:(atA a l i).length=a.length:=atA_len a l i
  have hw:w64 ((i:Int)+1)=((i+1:Nat):Int):=wrap_nat (show i≤big by omega)
  rw [atA]
  simp only
  generalize atA a l i=q at *
  generalize l.getD i 0=x at *
  have e1:decide (x < 0)=false:=decide_eq_false (by omega)
  have e2:decide (x ≥ (q.length:Int))=false:=decide_eq_false (by rw [hlen];omega)
  have e3:x < (q.length:Int):=by rw [hlen];omega
  rw [lt_t hi,ix_t hi,ixo_t hi,ixo_t hi,e1,cond_false,e2,cond_false]
  rw [ixz_t (fun _=>⟨h2,e3⟩),ix_t hi,ixz_t (fun _=>⟨h2,e3⟩),ck_t (by unfold inB;rw [decide_eq_true (show (0:Int)≤(x.toNat:Int) by omega),decide_eq_true (show (x.toNat:Int) < (q.length:Int) by omega)];rfl)]
  rw [show (q.getD x.toNat 0 != 0)=false by rw [h4];rfl,hw]
  rfl
theorem LSW1_ok {P:Rd} {F:ExprR→List RefR} {LO:CfgR→Option (List Int)} {I:List FieldR→Str→Int} (hT:TOk (tLw P F LO I)):SOk X0 (loopAt 3 0) (LSW1 K1 E1):=by
  intro S c r h hc
  unfold LSW1 at h
  split at h
  · rename_i l a cs hs
    split at h
    · rename_i c hx
      simp only [Option.some.injEq,Prod.mk.injEq] at h
      obtain ⟨rfl,rfl⟩:=h
      unfold K1 at hc
      rw [Bool.and_eq_true,Nat.ble_eq] at hc
      rw [xCfg_eq hx] at hs
      refine Goes.weakPre (Weak.fix xok FW1h S) (Goes.pre (keepOf [3,5,7,8]) ?_)
      rw [seenS_mask hs]
      refine loop_all (Sf:=fun i:Nat=>sW1 c l (atA a l i) i) (n:=l.length) (by simp) (fun i hi=>?_) (goes_ofG hT (noTL_ok _ _) (finE_ok _ _ _) (noLoops inW.1) ((bW1 P F LO I c l _ l.length).trans (lt_f (by omega) _ _)))
      have h1:=List.all_eq_true.1 hc.1 i (List.mem_range.2 hi)
      rw [Bool.and_eq_true,Bool.and_eq_true,decide_eq_true_eq,decide_eq_true_eq,beq_iff_eq] at h1
      exact goes_ofG hT (noTL_ok _ _) (finE_ok _ _ _) (noLoops inW.1) (w1_step P F LO I c l a hi hc.2 h1.1.1 h1.1.2 h1.2)
    · simp at h
  · simp at h
theorem loopW2 {P:Rd} {F:ExprR→List RefR} {LO:CfgR→Option (List Int)} {I:List FieldR→Str→Int} (hT:TOk (tLw P F LO I)):∀b∈loopsOf (loopAt 3 1),LoopOk X0 (atL 19 (LSW3 (K3 I)) noL) b:=by
  rw [inW.2.2]
  intro b hb
  rw [List.mem_singleton] at hb
  subst hb
  exact atL_ok (fun _=>LSW3_ok hT) fun h=>absurd idsW.2.2.2 h
theorem bW2 (P:Rd) (F:ExprR→List RefR) (LO:CfgR→Option (List Int)) (I:List FieldR→Str→Int) (K:CfgR→List Int→Nat→List RefR→Bool) (c:CfgR) (l a:List Int) (i:Nat) :
   evG (tLw P F LO I) noTL (atL 19 (LSW3 K) noL) 1 (loopAt 3 1) fW2 (sW2 c l a i) =
   lt_ i c.locals.length (ix_ i c.locals.length (ck_ (okA [] (etaE (c.locals.getD i default).e)) (ck_ (K c a i (F (etaE (c.locals.getD i default).e))) (some (.normal,sW2 c l a (w64 ((i:Int)+1))))))) (some (.exit 2,xW1 c l a)):=by kernel_rfl
def K2 (F:ExprR→List RefR) (I:List FieldR→Str→Int) (c:CfgR) (a:List Int):Bool:=((List.range c.locals.length).all fun i=>okA [] (c.locals.getD i default).e&&K3 I c a i (F (c.locals.getD i default).e))&&Nat.ble c.locals.length big
def FW2h:Fix Pl:={ keep:=[3,5,7,9],lose:=[4],ord:=[53,3] }
noncomputable def LSW2 (K:CfgR→List Int→Bool) (S:St Pl):Option (Bool×LR Pl):=match seenS 149 [3,5,7,9] (fixS X0.C FW2h S) with
  | some ([.ptr 3 0,.pl ⟨.ints,l⟩ .any,.arr 53,.int .i64 (.ofNat 0)],[(53,.arr false ⟨.ints,a⟩),(3,.box false cs)])=>(match xCfg cs with
    | some c=>some (K c a,.leaf (.exit 2) (xW1 c l a))
    | none=>none)
  | _=>none
theorem LSW2_ok {P:Rd} {F:ExprR→List RefR} {LO:CfgR→Option (List Int)} {I:List FieldR→Str→Int} (hT:TOk (tLw P F LO I)):SOk X0 (loopAt 3 1) (LSW2 (K2 F I)):=by
  intro S c r h hc
  unfold LSW2 at h
  split at h
  · rename_i l a cs hs
    split at h
    · rename_i c hx
      simp only [Option.some.injEq,Prod.mk.injEq] at h
      obtain ⟨rfl,rfl⟩:=h
      unfold K2 at hc
      rw [Bool.and_eq_true,Nat.ble_eq] at hc
      rw [xCfg_eq hx] at hs
      refine Goes.weakPre (Weak.fix xok FW2h S) (Goes.pre (keepOf [3,5,7,9]) ?_)
      rw [seenS_mask hs]
      refine loop_all (Sf:=fun i:Nat=>sW2 c l a i) (n:=c.locals.length) (by simp) (fun i hi=>?_) (goes_ofG hT (noTL_ok _ _) (finE_ok _ _ _) (loopW2 hT) ((bW2 P F LO I (K3 I) c l a c.locals.length).trans (lt_f (by omega) _ _)))
      refine goes_ofG hT (noTL_ok _ _) (finE_ok _ _ _) (loopW2 hT) ((bW2 P F LO I (K3 I) c l a i).trans ?_)
      have h1:=List.all_eq_true.1 hc.1 i (List.mem_range.2 hi)
      rw [Bool.and_eq_true] at h1
      rw [lt_t hi,ix_t hi,etaE_eq,ck_t h1.1,ck_t h1.2,show w64 ((i:Int)+1)=((i+1:Nat):Int) from wrap_nat (show i≤big by omega)]
    · simp at h
  · simp at h
theorem eLw (P:Rd) (F:ExprR→List RefR) (LO:CfgR→Option (List Int)) (I:List FieldR→Str→Int) (K:CfgR→List Int→Nat→List RefR→Bool) (k1:List Int→List Int→Bool) (e1:List Int→List Int→List Int) (k2:CfgR→List Int→Bool) (s:Str) :
    evF (tLw P F LO I) noTL (atL 9 (LSW1 k1 e1) (atL 15 (LSW2 k2) (atL 19 (LSW3 K) noL))) 1 Tryz.f3 [.str s] =
  (let c:=(P s).1
   let o:=LO c
   let e:=(bif o.isSome then (0:Int) else 13)
   let l:=o.getD []
   let z:=List.replicate c.locals.length (0:Int)
   bif (bif decide ((s.length:Int) > 3000) then true else (P s).2.c != 0) then some (.bool true) else
   ck_ (okFs F c.locals&&Nat.ble c.locals.length 1000000000) (bif e != 0 then (bif (bif (bif e==13 then ((l.length:Int)==0) else false) then decide ((c.locals.length:Int) > 0) else false)==true then some (.bool true) else some (.bool false))
     else ck_ ((decide ((0:Int)≤(c.locals.length:Int))&&((c.locals.length:Int)==(c.locals.length:Int)))&&Nat.ble (c.locals.length * 8) big) (ck_ (k1 l z) (ck_ (k2 c (e1 l z)) (bif (((l.length:Int)==(c.locals.length:Int))==true) then some (.bool true) else some (.bool false)))))):=by kernel_rfl
end Lcl
end Go.Proofs.YtpjfilgmfbdfoaaGreat
namespace Go.Proofs.YtpjfilgmfbdfoaaGreat
open Go.Eng
set_option maxRecDepth 100000
namespace Lcl
def ofC (e:ExprR):List RefR:=(docS ((allR (esz e+1) [] e).map twA)).map rf
theorem ofC_eq (e:ExprR):ofP e=ofC e:=by
  unfold ofP ofC
  rw [walkR_map,sort_law]
theorem ofC_snd:SndOf ofC:=fun e h=>by
  rw [←ofC_eq]
  exact ofP_sound e h
theorem ofC_len (e:ExprR):(ofC e).length≤esz e:=by
  unfold ofC
  rw [List.length_map,←sort_law]
  unfold sortK
  rw [List.length_mergeSort,List.length_map]
  have h1:=mapS_len ((allR (esz e+1) [] e).map twA)
  rw [List.length_map] at h1
  exact Nat.le_trans h1 (allR_len _ _ _)
theorem okF_of {e:ExprR} (h:esz e≤4000000000):okF ofC e=true:=by
  have hbig:big=140737488355328:=rfl
  have:=ofC_len e
  unfold okF okA
  rw [ble_t (by simp;omega),ble_t (by omega)]
  rfl
def tParse (P:Str→WR) (R:Eng.Told Pl):Eng.Told Pl:=tell 11 (pS fun s=>.tup [.agg (cExpr (P s).e),.agg (cDg (P s).c (P s).p)]) R
def awT:Eng.Told Pl:=tParse parseV (tell 7 (pOfE ofC) (tell 12 pSameR tell0))
theorem awT_ok:TOk awT:=tell_ok (pS_ok parseV_sound) (tell_ok (pe1_ok fun e h=>ofC_snd e h) (tell_ok pSameR_ok (tell0_ok _)))
theorem eAwake:ev awT noTL 1 5 []=some (.bool true):=by kernel_rfl
theorem awake_sound:Snd 5 [] (.bool true):=snd_of awT_ok (noTL_ok _ _) eAwake
structure Facts (r:CfgR×DwR):Prop where
  nd:(r.1.locals.map fun f=>f.name).Nodup
  sz:∀f∈r.1.locals,esz f.e≤4000000000
  len:r.1.locals.length≤100000
theorem all_getD {l:List FieldR} {i:Nat} (h:i < l.length):l.getD i default∈l:=getD_mem h
theorem refsLocals_sound {P:Rd} (hP:∀s,Snd 4 [.str s] (encR (P s))) (hf:∀s,(P s).2.c=0→Facts (P s)) (s:Str):Snd 3 [.str s] (.bool true):=by
  have hbig:big=140737488355328:=rfl
  have hT:TOk (tLw P ofC (locO ofC) locI):=tell_ok (pS_ok hP) (tell_ok (pLs_ok ofC_snd) (tell_ok (pe1_ok fun e h=>ofC_snd e h) (tell_ok (pLoc_ok dloc_sound) (tell_ok (fun ds b d hp _=>by
    unfold pTrue at hp
    split at hp
    · simp only [Option.some.injEq,Prod.mk.injEq] at hp;obtain ⟨_,rfl⟩:=hp;exact awake_sound
    · simp at hp) (tell0_ok _)))))
  have hLs:∀i,i < (loopsAt 3).length→LoopOk X0 (atL 9 (LSW1 K1 E1) (atL 15 (LSW2 (K2 ofC locI)) (atL 19 (LSW3 (K3 locI)) noL))) (loopAt 3 i):=by
    intro i hi
    rw [idsW.1] at hi
    match i,hi with
    | 0,_=>exact atL_ok (fun _=>LSW1_ok hT) fun h=>absurd idsW.2.1 h
    | 1,_=>exact atL_ok (fun h=>absurd (idsW.2.2.1.symm.trans h) (by decide)) fun _=>atL_ok (fun _=>LSW2_ok hT) fun h=>absurd idsW.2.2.1 h
    | 2,_=>exact atL_ok (fun h=>absurd (idsW.2.2.2.symm.trans h) (by decide)) fun _=>atL_ok (fun h=>absurd (idsW.2.2.2.symm.trans h) (by decide)) fun _=>atL_ok (fun _=>LSW3_ok hT) fun h=>absurd idsW.2.2.2 h
  have go:=fun {d} (h:_=some d)=>snd_fn (n:=1) hT (noTL_ok _ _) (f:=3) (fn:=Tryz.f3) (by kernel_rfl) (loops_of (f:=3) (fn:=Tryz.f3) (by kernel_rfl) hLs) ((eLw P ofC (locO ofC) locI (K3 locI) K1 E1 (K2 ofC locI) s).trans h)
  simp only at go
  cases c1:(bif decide ((s.length:Int) > 3000) then true else (P s).2.c != 0) with
  | true=>rw [c1] at go;exact go rfl
  | false =>
  have hz:(P s).2.c=0:=by
    cases hd:decide ((s.length:Int) > 3000) with
    | true=>rw [hd] at c1;cases c1
    | false=>rw [hd] at c1;simpa using c1
  obtain ⟨nd,sz,len⟩:=hf s hz
  rw [c1,cond_false] at go
  generalize (P s).1=c at *
  have hok:okFs ofC c.locals=true:=List.all_eq_true.2 fun f hf=>okF_of (sz f hf)
  rw [ck_t (by rw [hok,ble_t (by omega)];rfl)] at go
  cases hq:locO ofC c with
  | none =>
    rw [hq] at go
    have hpos:0 < c.locals.length:=by
      rcases Nat.eq_zero_or_pos c.locals.length with h | h
      · unfold locO at hq
        rw [h] at hq
        cases hq
      · exact h
    refine go ?_
    rw [decide_eq_true (show (c.locals.length:Int) > 0 by omega)]
    rfl
  | some l =>
    rw [hq] at go
    obtain ⟨hg,hl⟩:=locL_good nd c.locals.length [] l (Good.nil ofC c) hq
    simp only [List.length_nil,Nat.zero_add] at hl
    refine go ?_
    simp only [Option.isSome_some,cond_true,Option.getD_some]
    rw [show ((0:Int) != 0)=false from rfl,cond_false,ck_t (by rw [decide_eq_true (show (0:Int)≤(c.locals.length:Int) by omega),beq_self_eq_true,ble_t (by omega)];rfl),ck_t,ck_t]
    · rw [hl,beq_self_eq_true];rfl
    · unfold K2 E1
      rw [Bool.and_eq_true,Nat.ble_eq]
      refine ⟨List.all_eq_true.2 fun i hi=>?_,by omega⟩
      have hi:=List.mem_range.1 hi
      have hm:=all_getD hi
      have hsz:=sz _ hm
      have hke:=okF_of hsz
      unfold okF at hke
      rw [Bool.and_eq_true,Nat.ble_eq] at hke
      rw [hke.1,Bool.true_and]
      unfold K3
      rw [Bool.and_eq_true,Nat.ble_eq]
      refine ⟨List.all_eq_true.2 fun r hr=>?_,by omega⟩
      unfold w3ok
      cases hgd:(bif r.root==n_local then decide (locI c.locals r.name ≥ 0) else false) with
      | false=>rfl
      | true =>
        have hroot:(r.root==n_local)=true:=by
          cases h:r.root==n_local with
          | true=>rfl
          | false=>rw [h] at hgd;cases hgd
        rw [hroot,cond_true] at hgd
        have h0:=of_decide_eq_true hgd
        have hlt:=(locI_lt c.locals r.name).1
        have ha:=hg.ahead hl hi (asksM_mem ofC c (c.locals.getD i default).e hr hroot h0)
        rw [atA_eq,cond_true,atF_len,decide_eq_true hlt,blt_t hi,decide_eq_false (by omega)]
        rfl
    · unfold K1
      rw [Bool.and_eq_true,Nat.ble_eq]
      refine ⟨List.all_eq_true.2 fun i hi=>?_,by omega⟩
      have hi:=List.mem_range.1 hi
      obtain ⟨f1,f2,f3⟩:=hg.first hi
      rw [atA_eq,List.length_replicate,decide_eq_true f1,decide_eq_true f2,f3]
      rfl
end Lcl
end Go.Proofs.YtpjfilgmfbdfoaaGreat
namespace Go.Proofs.YtpjfilgmfbdfoaaGreat
open Go.Eng
theorem locals_true (s:Str):Snd 3 [.str s] (.bool true) :=
  Lcl.refsLocals_sound (P:=Dec.readV) Dec.read_sound (fun s _=>⟨(Dec.readV_known s).nd,(Dec.readV_known s).sz,by have:=(Dec.readV_known s).len;omega⟩) s
end Go.Proofs.YtpjfilgmfbdfoaaGreat
