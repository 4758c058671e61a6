/-
  THE LOCALS' ORDER, plainly: each is there once, behind all that it asks for.
-/
import Derived.Test.YtpjfilgmfbdfoaaGreatDeclD
import Derived.Test.YtpjfilgmfbdfoaaGreatWalkP
namespace Go.Proofs.YtpjfilgmfbdfoaaGreat
open Go.Eng
set_option maxRecDepth 100000
namespace Lcl
def posI (l:List Int) (k:Int):Nat:=ff (fun i=>!(k==l.getD i 0)) l.length
def idxI (l:List Int) (k:Int):Int:=bif Nat.beq (posI l k) l.length then -1 else (posI l k:Int)
def hasI (l:List Int) (k:Int):Bool:=decide (idxI l k ≥ 0)
def sIi (l:List Int) (k:Int) (i:Int):St Pl:=mkS 19 [(0,.pl (pInts l) .any),(1,dI k),(4,dI 0),(7,dI l.length),(8,dI i)] []
def rIi (k:Int) (i:Int):St Pl:=mkS 19 [(4,dI i)] []
def rIx:St Pl:=mkS 19 [] []
noncomputable def fIi:Fin:=finE { keep:=[0,1,4,7,8] } { keep:=[] } { keep:=[4] }
theorem bIi (l:List Int) (k:Int) (i:Nat):evG tell0 noTL noL 1 (loopAt 43 0) fIi (sIi l k i) =
    lt_ i l.length (ix_ i l.length (bif k==l.getD i 0 then some (.ret,rIi k i) else some (.normal,sIi l k (w64 ((i:Int)+1))))) (some (.exit 0,rIx)):=by kernel_rfl
theorem idsIi:(loopsAt 43).length=1∧firstId (loopAt 43 0)=2∧loopsOf (loopAt 43 0)=[]:=⟨by kernel_rfl,by kernel_rfl,by kernel_rfl⟩
def LSIi (S:St Pl):Option (Bool×LR Pl):=match seenS 19 [0,1,4,7,8] S with
  | some ([.pl ⟨.ints,l⟩ .any,.int .i64 k,.int .i64 (.ofNat 0),.int .i64 n,.int .i64 (.ofNat 0)],[]) =>
    some (n==(l.length:Int)&&Nat.ble l.length big,loopR l.length (fun i=>!(k==l.getD i 0)) (.exit 0) rIx .ret (fun i=>rIi k i))
  | _=>none
theorem LSIi_ok:SOk X0 (loopAt 43 0) LSIi:=by
  intro S c r h hc
  unfold LSIi at h
  split at h
  · rename_i l k n hs
    simp only [Option.some.injEq,Prod.mk.injEq] at h
    obtain ⟨rfl,rfl⟩:=h
    simp only [Bool.and_eq_true,Nat.ble_eq,beq_iff_eq] at hc
    obtain ⟨rfl,hb⟩:=hc
    refine Goes.pre (keepOf [0,1,4,7,8]) ?_
    rw [seenS_mask hs]
    refine srch (tell0_ok _) (noLoops idsIi.2.2) (finE_ok _ _ _) (k:=1) (Sf:=fun i=>sIi l k i) hb (by simp) (by simp) (fun i hi=>(bIi l k i).trans ?_) ((bIi l k l.length).trans (lt_f (by omega) _ _))
    rw [lt_t hi,ix_t hi]
    cases k==l.getD i 0<;>rfl
  · simp at h
theorem eIi (l:List Int) (k:Int):evF tell0 noTL (atL 2 LSIi noL) 1 Tryz.f43 [.pl (pInts l) .any,dI k] =
    ck_ (((l.length:Int)==(l.length:Int))&&Nat.ble l.length big) (bif Nat.beq (posI l k) l.length then some (dI (-1)) else some (dI (posI l k))):=by kernel_rfl
theorem idxI_sound (l:List Int) (k:Int):Snd 43 [.pl (pInts l) .any,dI k] (dI (idxI l k)):=by
  refine SoundAt.rooms fun hroom=>snd_fn (n:=1) (tell0_ok _) (noTL_ok _ _) (f:=43) (fn:=Tryz.f43) (by kernel_rfl) (loops_of (f:=43) (fn:=Tryz.f43) (by kernel_rfl) (loops_1 idsIi.1 (atL_ok (fun _=>LSIi_ok) fun h=>absurd idsIi.2.1 h))) ((eIi l k).trans ?_)
  have ha:l.length * 8≤big:=hroom (.pl (pInts l) .any) (by simp)
  rw [ck_t (by rw [beq_self_eq_true,ble_t (by omega)];rfl)]
  unfold idxI
  cases Nat.beq (posI l k) l.length<;>rfl
def pHasI (f:List Int→Int→D Pl):List (D Pl)→Option (Bool×D Pl)
  | [d,.int .i64 k]=>match asL .ints d with
    | some l=>some (true,f l k)
    | none=>none
  | _=>none
theorem pHasI_ok {g:FuncId} {f:List Int→Int→D Pl} (hf:∀l x,Snd g [.pl (pInts l) .any,dI x] (f l x)):∀ds b d,pHasI f ds=some (b,d)→b=true→Snd g ds d:=by
  intro ds b d h hb
  unfold pHasI at h
  split at h
  · split at h
    · rename_i h1
      simp only [Option.some.injEq,Prod.mk.injEq] at h
      obtain ⟨_,rfl⟩:=h
      exact (hf _ _).pre (.cons (asL_rdle h1) (.cons (RDle.refl _) .nil))
    · simp at h
  · simp at h
theorem eCi (l:List Int) (k:Int) (F:List Int→Int→Int):evF (tell 43 (pHasI fun l x=>dI (F l x)) tell0) noTL noL 1 Tryz.f16 [.pl (pInts l) .any,dI k]=some (.bool (decide (F l k ≥ 0))):=by kernel_rfl
theorem hasI_sound (l:List Int) (k:Int):Snd 16 [.pl (pInts l) .any,dI k] (.bool (hasI l k)) :=
  snd_fn (n:=1) (tell_ok (pHasI_ok idxI_sound) (tell0_ok _)) (noTL_ok _ _) (f:=16) (fn:=Tryz.f16) (by kernel_rfl) (loops_of (f:=16) (fn:=Tryz.f16) (by kernel_rfl) (loops_0 (by kernel_rfl))) (eCi l k idxI)
theorem beqN {a b:Nat}:Nat.beq a b=true↔a=b:=⟨Nat.eq_of_beq_eq_true,fun h=>by subst h;exact Nat.beq_refl a⟩
theorem hasI_iff (l:List Int) (k:Int):hasI l k=true↔k∈l:=by
  unfold hasI idxI
  rcases ff_spec l.length (fun i=>!(k==l.getD i 0)) with ⟨h1,h2⟩ | ⟨h1,h2,_⟩
  · have h1:posI l k=l.length:=h1
    rw [beqN.2 h1]
    constructor
    · intro h;simp at h
    · intro h
      obtain ⟨i,hi,rfl⟩:=List.mem_iff_getElem.1 h
      have:=h2 i hi
      simp [List.getD_eq_getElem?_getD,List.getElem?_eq_getElem hi] at this
  · have h1:posI l k < l.length:=h1
    rw [show Nat.beq (posI l k) l.length=false from by
      cases hb:Nat.beq (posI l k) l.length with
      | false=>rfl
      | true=>have:=beqN.1 hb;omega]
    constructor
    · intro _
      have h2:(k==l.getD (posI l k) 0)=true:=by
        have:(!(k==l.getD (posI l k) 0))=false:=h2
        simpa using this
      rw [beq_iff_eq.1 h2]
      exact getD_mem h1
    · intro _
      exact decide_eq_true (by simp)
def pNot (out:List Int) (l:List Int):Nat:=ff (fun i=>!(!(hasI out (l.getD i 0)))) l.length
def idxN (out:List Int) (l:List Int):Int:=bif Nat.beq (pNot out l) l.length then -1 else (pNot out l:Int)
def tCn:Eng.Told Pl:=tell 16 (pHasI fun l x=>.bool (hasI l x)) tell0
theorem tCn_ok:TOk tCn:=tell_ok (pHasI_ok hasI_sound) (tell0_ok _)
def sNt (out:List Int) (l:List Int) (i:Int):St Pl:=mkS 19 [(0,.pl (pInts l) .any),(1,.fn 19 [.ref [.pl (pInts out) .any]]),(4,dI 0),(7,dI l.length),(8,dI i)] []
theorem bNt (out l:List Int) (i:Nat):evG tCn noTL noL 2 (loopAt 44 0) fIi (sNt out l i) =
    lt_ i l.length (ix_ i l.length (bif !(hasI out (l.getD i 0)) then some (.ret,rIi 0 i) else some (.normal,sNt out l (w64 ((i:Int)+1))))) (some (.exit 0,rIx)):=by kernel_rfl
theorem idsNt:(loopsAt 44).length=1∧firstId (loopAt 44 0)=2∧loopsOf (loopAt 44 0)=[]:=⟨by kernel_rfl,by kernel_rfl,by kernel_rfl⟩
def LSNt (S:St Pl):Option (Bool×LR Pl):=match seenS 19 [0,1,4,7,8] S with
  | some ([.pl ⟨.ints,l⟩ .any,.fn 19 [.ref [.pl ⟨.ints,out⟩ .any]],.int .i64 (.ofNat 0),.int .i64 n,.int .i64 (.ofNat 0)],[]) =>
    some (n==(l.length:Int)&&Nat.ble l.length big,loopR l.length (fun i=>!(!(hasI out (l.getD i 0)))) (.exit 0) rIx .ret (fun i=>rIi 0 i))
  | _=>none
theorem LSNt_ok:SOk X0 (loopAt 44 0) LSNt:=by
  intro S c r h hc
  unfold LSNt at h
  split at h
  · rename_i l out n hs
    simp only [Option.some.injEq,Prod.mk.injEq] at h
    obtain ⟨rfl,rfl⟩:=h
    simp only [Bool.and_eq_true,Nat.ble_eq,beq_iff_eq] at hc
    obtain ⟨rfl,hb⟩:=hc
    refine Goes.pre (keepOf [0,1,4,7,8]) ?_
    rw [seenS_mask hs]
    refine srch tCn_ok (noLoops idsNt.2.2) (finE_ok _ _ _) (k:=2) (Sf:=fun i=>sNt out l i) hb (by simp) (by simp) (fun i hi=>(bNt out l i).trans ?_) ((bNt out l l.length).trans (lt_f (by omega) _ _))
    rw [lt_t hi,ix_t hi]
    cases hasI out (l.getD i 0)<;>rfl
  · simp at h
theorem eNt (out l:List Int):evF tCn noTL (atL 2 LSNt noL) 1 Tryz.f44 [.pl (pInts l) .any,.fn 19 [.ref [.pl (pInts out) .any]]] =
    ck_ (((l.length:Int)==(l.length:Int))&&Nat.ble l.length big) (bif Nat.beq (pNot out l) l.length then some (dI (-1)) else some (dI (pNot out l))):=by kernel_rfl
theorem idxN_sound (out l:List Int):Snd 44 [.pl (pInts l) .any,.fn 19 [.ref [.pl (pInts out) .any]]] (dI (idxN out l)):=by
  refine SoundAt.rooms fun hroom=>snd_fn (n:=1) tCn_ok (noTL_ok _ _) (f:=44) (fn:=Tryz.f44) (by kernel_rfl) (loops_of (f:=44) (fn:=Tryz.f44) (by kernel_rfl) (loops_1 idsNt.1 (atL_ok (fun _=>LSNt_ok) fun h=>absurd idsNt.2.1 h))) ((eNt out l).trans ?_)
  have ha:l.length * 8≤big:=hroom (.pl (pInts l) .any) (by simp)
  rw [ck_t (by rw [beq_self_eq_true,ble_t (by omega)];rfl)]
  unfold idxN
  cases Nat.beq (pNot out l) l.length<;>rfl
def pNt (f:List Int→List Int→D Pl):List (D Pl)→Option (Bool×D Pl)
  | [d,.fn 19 [.ref [.pl ⟨.ints,out⟩ .any]]]=>match asL .ints d with
    | some l=>some (true,f out l)
    | none=>none
  | _=>none
theorem pNt_ok {g:FuncId} {f:List Int→List Int→D Pl} (hf:∀out l,Snd g [.pl (pInts l) .any,.fn 19 [.ref [.pl (pInts out) .any]]] (f out l)):∀ds b d,pNt f ds=some (b,d)→b=true→Snd g ds d:=by
  intro ds b d h hb
  unfold pNt at h
  split at h
  · split at h
    · rename_i h1
      simp only [Option.some.injEq,Prod.mk.injEq] at h
      obtain ⟨_,rfl⟩:=h
      exact (hf _ _).pre (.cons (asL_rdle h1) (.cons (RDle.refl _) .nil))
    · simp at h
  · simp at h
theorem eCn (out l:List Int) (F:List Int→List Int→Int):evF (tell 44 (pNt fun o l=>dI (F o l)) tell0) noTL noL 1 Tryz.f17 [.pl (pInts l) .any,.fn 19 [.ref [.pl (pInts out) .any]]]=some (.bool (decide (F out l ≥ 0))):=by kernel_rfl
def anyN (out l:List Int):Bool:=decide (idxN out l ≥ 0)
theorem anyN_sound (out l:List Int):Snd 17 [.pl (pInts l) .any,.fn 19 [.ref [.pl (pInts out) .any]]] (.bool (anyN out l)) :=
  snd_fn (n:=1) (tell_ok (pNt_ok idxN_sound) (tell0_ok _)) (noTL_ok _ _) (f:=17) (fn:=Tryz.f17) (by kernel_rfl) (loops_of (f:=17) (fn:=Tryz.f17) (by kernel_rfl) (loops_0 (by kernel_rfl))) (eCn out l idxN)
theorem anyN_not (out l:List Int) (h:anyN out l=false):∀k∈l,k∈out:=by
  unfold anyN idxN at h
  rcases ff_spec l.length (fun i=>!(!(hasI out (l.getD i 0)))) with ⟨h1,h2⟩ | ⟨h1,_,_⟩
  · intro k hk
    obtain ⟨i,hi,rfl⟩:=List.mem_iff_getElem.1 hk
    have:=h2 i hi
    rw [Bool.not_not] at this
    have h3:=(hasI_iff _ _).1 this
    simpa [List.getD_eq_getElem?_getD,List.getElem?_eq_getElem hi] using h3
  · have h1:pNot out l < l.length:=h1
    rw [show Nat.beq (pNot out l) l.length=false from by
      cases hb:Nat.beq (pNot out l) l.length with
      | false=>rfl
      | true=>have:=beqN.1 hb;omega] at h
    rw [cond_false,decide_eq_true (show (pNot out l:Int) ≥ 0 by omega)] at h
    cases h
def isF (l:List FieldR) (s:Str) (i:Nat):Bool:=(l.getD i default).name==s
def posF (l:List FieldR) (s:Str):Nat:=ff (fun i=>!(isF l s i)) l.length
def locI (l:List FieldR) (s:Str):Int:=bif Nat.beq (posF l s) l.length then -1 else (posF l s:Int)
def sFi (l:List FieldR) (s:Str) (i:Int):St Pl:=mkS 19 [(0,.pl (pFields l) .any),(1,.fn 42 [.ref [.str s]]),(4,dI 0),(7,dI l.length),(8,dI i)] []
theorem bFi (l:List FieldR) (s:Str) (i:Nat):evG tell0 noTL noL 2 (loopAt 13 0) fIi (sFi l s i) =
    lt_ i l.length (ix_ i l.length (bif isF l s i then some (.ret,rIi 0 i) else some (.normal,sFi l s (w64 ((i:Int)+1))))) (some (.exit 0,rIx)):=by kernel_rfl
theorem idsFi:(loopsAt 13).length=1∧firstId (loopAt 13 0)=2∧loopsOf (loopAt 13 0)=[]:=⟨by kernel_rfl,by kernel_rfl,by kernel_rfl⟩
def LSFi (S:St Pl):Option (Bool×LR Pl):=match seenS 19 [0,1,4,7,8] S with
  | some ([.pl ⟨.fields,l⟩ .any,.fn 42 [.ref [.str s]],.int .i64 (.ofNat 0),.int .i64 n,.int .i64 (.ofNat 0)],[]) =>
    some (n==(l.length:Int)&&Nat.ble l.length big,loopR l.length (fun i=>!(isF l s i)) (.exit 0) rIx .ret (fun i=>rIi 0 i))
  | _=>none
theorem LSFi_ok:SOk X0 (loopAt 13 0) LSFi:=by
  intro S c r h hc
  unfold LSFi at h
  split at h
  · rename_i l s n hs
    simp only [Option.some.injEq,Prod.mk.injEq] at h
    obtain ⟨rfl,rfl⟩:=h
    simp only [Bool.and_eq_true,Nat.ble_eq,beq_iff_eq] at hc
    obtain ⟨rfl,hb⟩:=hc
    refine Goes.pre (keepOf [0,1,4,7,8]) ?_
    rw [seenS_mask hs]
    refine srch (tell0_ok _) (noLoops idsFi.2.2) (finE_ok _ _ _) (k:=2) (Sf:=fun i=>sFi l s i) hb (by simp) (by simp) (fun i hi=>(bFi l s i).trans ?_) ((bFi l s l.length).trans (lt_f (by omega) _ _))
    rw [lt_t hi,ix_t hi]
    cases isF l s i<;>rfl
  · simp at h
theorem eFi (l:List FieldR) (s:Str):evF tell0 noTL (atL 2 LSFi noL) 1 Tryz.f13 [.pl (pFields l) .any,.fn 42 [.ref [.str s]]] =
    ck_ (((l.length:Int)==(l.length:Int))&&Nat.ble l.length big) (bif Nat.beq (posF l s) l.length then some (dI (-1)) else some (dI (posF l s))):=by kernel_rfl
theorem fields_big {l:List FieldR} (h:l.length * X0.C.bys (pFields l)≤big):l.length≤big:=by
  have h2:1≤X0.C.bys (pFields l):=Nat.le_of_ble_eq_true rfl
  calc l.length=l.length * 1:=by omega
    _≤_:=Nat.mul_le_mul_left _ h2
    _≤big:=h
theorem idxF_sound (l:List FieldR) (s:Str):Snd 13 [.pl (pFields l) .any,.fn 42 [.ref [.str s]]] (dI (locI l s)):=by
  refine SoundAt.rooms fun hroom=>snd_fn (n:=1) (tell0_ok _) (noTL_ok _ _) (f:=13) (fn:=Tryz.f13) (by kernel_rfl) (loops_of (f:=13) (fn:=Tryz.f13) (by kernel_rfl) (loops_1 idsFi.1 (atL_ok (fun _=>LSFi_ok) fun h=>absurd idsFi.2.1 h))) ((eFi l s).trans ?_)
  have ha:=fields_big (hroom (.pl (pFields l) .any) (by simp))
  rw [ck_t (by rw [beq_self_eq_true,ble_t (by omega)];rfl)]
  unfold locI
  cases Nat.beq (posF l s) l.length<;>rfl
def pFi (f:List FieldR→Str→D Pl):List (D Pl)→Option (Bool×D Pl)
  | [.pl ⟨.fields,l⟩ .any,.fn 42 [.ref [.str s]]]=>some (true,f l s)
  | _=>none
theorem pFi_ok:∀ds b d,pFi (fun l s=>dI (locI l s)) ds=some (b,d)→b=true→Snd 13 ds d:=by
  intro ds b d h hb
  unfold pFi at h
  split at h
  · simp only [Option.some.injEq,Prod.mk.injEq] at h
    obtain ⟨_,rfl⟩:=h
    exact idxF_sound _ _
  · simp at h
theorem eLc (c:CfgR) (s:Str) (F:List FieldR→Str→Int):evF (tell 13 (pFi fun l s=>dI (F l s)) tell0) noTL noL 1 Tryz.f15 [.agg (cCfg c),.str s]=some (dI (F c.locals s)):=by kernel_rfl
theorem loc_sound (c:CfgR) (s:Str):Snd 15 [.agg (cCfg c),.str s] (dI (locI c.locals s)) :=
  snd_fn (n:=1) (tell_ok pFi_ok (tell0_ok _)) (noTL_ok _ _) (f:=15) (fn:=Tryz.f15) (by kernel_rfl) (loops_of (f:=15) (fn:=Tryz.f15) (by kernel_rfl) (loops_0 (by kernel_rfl))) (eLc c s locI)
def sDl (c:CfgR) (s:Str) (i:Int):St Pl:=mkS 22 [(1,.str s),(2,.ptr 2 0),(5,dI i)] [(2,.box false (cCfg c))]
noncomputable def fDl:Fin:=finE { keep:=[1,2,5] } { keep:=[],lose:=[2] } { keep:=[4],lose:=[2] }
theorem bDl (c:CfgR) (s:Str) (i:Nat):evG tell0 noTL noL 1 (loopAt 8 0) fDl (sDl c s i) =
    lt_ i c.locals.length (ix_ i c.locals.length (bif isF c.locals s i then some (.ret,mkS 22 [(4,dI i)] []) else some (.normal,sDl c s (w64 ((i:Int)+1))))) (some (.exit 0,mkS 22 [] [])):=by kernel_rfl
theorem idsDl:(loopsAt 8).length=1∧firstId (loopAt 8 0)=2∧loopsOf (loopAt 8 0)=[]:=⟨by kernel_rfl,by kernel_rfl,by kernel_rfl⟩
def LSDl (S:St Pl):Option (Bool×LR Pl):=match seenS 22 [1,2,5] S with
  | some ([.str s,.ptr 2 0,.int .i64 (.ofNat 0)],[(2,.box false [.pl ⟨.inputs,a⟩ .any,.pl ⟨.fields,b⟩ .any,.pl ⟨.ress,r⟩ .any,.pl ⟨.fields,d⟩ .any,.pl ⟨.conds,e⟩ .any])]) =>
    some (Nat.ble b.length big,loopR b.length (fun i=>!(isF b s i)) (.exit 0) (mkS 22 [] []) .ret fun i=>mkS 22 [(4,dI i)] [])
  | _=>none
theorem LSDl_ok:SOk X0 (loopAt 8 0) LSDl:=by
  intro S c r h hc
  unfold LSDl at h
  split at h
  · rename_i s a b r d e hs
    simp only [Option.some.injEq,Prod.mk.injEq] at h
    obtain ⟨rfl,rfl⟩:=h
    simp only [Nat.ble_eq] at hc
    refine Goes.pre (keepOf [1,2,5]) ?_
    rw [seenS_mask hs]
    refine srch (tell0_ok _) (noLoops idsDl.2.2) (finE_ok _ _ _) (k:=1) (Sf:=fun i=>sDl ⟨a,b,r,d,e⟩ s i) hc (by simp) (by simp) (fun i hi=>(bDl ⟨a,b,r,d,e⟩ s i).trans ?_) ((bDl ⟨a,b,r,d,e⟩ s b.length).trans (lt_f (by simp) _ _))
    rw [lt_t hi,ix_t hi]
    cases isF b s i<;>rfl
  · simp at h
theorem eDl (c:CfgR) (s:Str):evF tell0 noTL (atL 2 LSDl noL) 1 Tryz.f8 [.agg (cCfg c),.str s] =
    ck_ (Nat.ble c.locals.length big) (bif Nat.beq (posF c.locals s) c.locals.length then some (dI (-1)) else some (dI (posF c.locals s))):=by kernel_rfl
theorem dloc_sound (c:CfgR) (s:Str):Snd 8 [.agg (cCfg c),.str s] (dI (locI c.locals s)):=by
  refine SoundAt.rooms fun hroom=>snd_fn (n:=1) (tell0_ok _) (noTL_ok _ _) (f:=8) (fn:=Tryz.f8) (by kernel_rfl) (loops_of (f:=8) (fn:=Tryz.f8) (by kernel_rfl) (loops_1 idsDl.1 (atL_ok (fun _=>LSDl_ok) fun h=>absurd idsDl.2.1 h))) ((eDl c s).trans ?_)
  have hr:Room _ (.agg (cCfg c)):=hroom _ (by simp)
  have hk:=fields_big (hr (.pl (pFields c.locals) .any) (by simp [cCfg]))
  rw [ck_t (ble_t hk)]
  unfold locI
  cases Nat.beq (posF c.locals s) c.locals.length<;>rfl
end Lcl
end Go.Proofs.YtpjfilgmfbdfoaaGreat
namespace Go.Proofs.YtpjfilgmfbdfoaaGreat
open Go.Eng
set_option maxRecDepth 100000
namespace Lcl
def n_local:Str:=[108,111,99,97,108]
def asRf:D Pl→Option (List RefR)
  | .nilS=>some []
  | .pl ⟨.refs,l⟩ _=>some l
  | _=>none
def xCfg:List (D Pl)→Option CfgR
  | [.pl ⟨.inputs,a⟩ .any,.pl ⟨.fields,b⟩ .any,.pl ⟨.ress,r⟩ .any,.pl ⟨.fields,d⟩ .any,.pl ⟨.conds,e⟩ .any]=>some ⟨a,b,r,d,e⟩
  | _=>none
theorem xCfg_eq {cs:List (D Pl)} {c:CfgR} (h:xCfg cs=some c):cs=cCfg c:=by
  unfold xCfg at h
  split at h
  · simp only [Option.some.injEq] at h;subst h;rfl
  · simp at h
def pLoc (f:CfgR→Str→D Pl):List (D Pl)→Option (Bool×D Pl)
  | [.agg cs,.str s]=>match xCfg cs with
    | some c=>some (true,f c s)
    | none=>none
  | _=>none
theorem pLoc_ok {g:FuncId} {f:CfgR→Str→D Pl} (h:∀c s,Snd g [.agg (cCfg c),.str s] (f c s)):∀ds b d,pLoc f ds=some (b,d)→b=true→Snd g ds d:=by
  intro ds b d hp hb
  unfold pLoc at hp
  split at hp
  · split at hp
    · rename_i h1
      simp only [Option.some.injEq,Prod.mk.injEq] at hp
      obtain ⟨_,rfl⟩:=hp
      rw [xCfg_eq h1]
      exact h _ _
    · simp at hp
  · simp at hp
def pOfE (f:ExprR→List RefR):List (D Pl)→Option (Bool×D Pl):=pe1 fun e=>(okA [] e,.pl (pRefs (f e)) .any)
def SndOf (F:ExprR→List RefR):Prop:=∀e,okA [] e=true→Snd 7 [.agg (cExpr e)] (.pl (pRefs (F e)) .any)
noncomputable def tAs (F:ExprR→List RefR) (I:List FieldR→Str→Int) (H:List Int→Int→Bool):Eng.Told Pl :=
  tell 7 (pOfE F) (tell 15 (pLoc fun c s=>dI (I c.locals s)) (tell 16 (pHasI fun l x=>.bool (H l x)) tell0))
theorem tAs_ok {F:ExprR→List RefR} (hF:SndOf F):TOk (tAs F locI hasI):=tell_ok (pe1_ok fun e h=>hF e h) (tell_ok (pLoc_ok loc_sound) (tell_ok (pHasI_ok hasI_sound) (tell0_ok _)))
def sAs (c:CfgR) (l:List RefR) (out:List Int) (i:Int):St Pl:=mkS 39 [(2,.ptr 2 0),(5,.arr 36),(10,.pl (pRefs l) .any),(11,dI l.length),(12,dI i)] [(36,.arr false (pInts out)),(2,.box false (cCfg c))]
def rAs (out:List Int):St Pl:=mkS 39 [(5,.arr 36)] [(36,.arr false (pInts out))]
noncomputable def fAs:Fin:=finE { keep:=[2,5,10,11,12],lose:=[3,7],ord:=[36,2] } { keep:=[5],lose:=[2,3,7],ord:=[36] } { keep:=[] }
def askC (I:List FieldR→Str→Int) (H:List Int→Int→Bool) (c:CfgR) (out:List Int) (r:RefR):Bool:=bif (bif r.root==n_local then decide (I c.locals r.name ≥ 0) else false)==true then !(H out (I c.locals r.name)) else false
def ask1 (I:List FieldR→Str→Int) (H:List Int→Int→Bool) (c:CfgR) (out:List Int) (r:RefR):List Int:=bif askC I H c out r then out++[I c.locals r.name] else out
theorem bAs (F:ExprR→List RefR) (I:List FieldR→Str→Int) (H:List Int→Int→Bool) (c:CfgR) (l:List RefR) (out:List Int) (i:Nat):evG (tAs F I H) noTL noL 1 (loopAt 18 0) fAs (sAs c l out i) =
    lt_ i l.length (ix_ i l.length (bif (bif (l.getD i default).root==n_local then decide (I c.locals (l.getD i default).name ≥ 0) else false)==true then
      (bif !(H out (I c.locals (l.getD i default).name)) then apK 8 out (I c.locals (l.getD i default).name) fun o=>some (.normal,sAs c l o (w64 ((i:Int)+1))) else some (.normal,sAs c l out (w64 ((i:Int)+1))))
      else some (.normal,sAs c l out (w64 ((i:Int)+1))))) (some (.exit 0,rAs out)):=by kernel_rfl
theorem idsAs:(loopsAt 18).length=1∧firstId (loopAt 18 0)=3∧loopsOf (loopAt 18 0)=[]:=⟨by kernel_rfl,by kernel_rfl,by kernel_rfl⟩
def sAs0 (c:CfgR) (l:List RefR):St Pl:=mkS 39 [(2,.ptr 2 0),(5,.nilS),(10,.pl (pRefs l) .any),(11,dI l.length),(12,dI 0)] [(2,.box false (cCfg c))]
theorem weakAs_eq (c:CfgR) (l:List RefR):nilsS X0.C [(.slot 5,36,pInts [])] (sAs0 c l)=sAs c l [] 0:=by kernel_rfl
theorem weakAs (c:CfgR) (l:List RefR):Weak X0 (sAs0 c l) (sAs c l [] 0):=weakAs_eq c l ▸ Weak.nils xok [(.slot 5,36,pInts [])] (sAs0 c l)
def askL (I:List FieldR→Str→Int) (H:List Int→Int→Bool) (c:CfgR) (l:List RefR):List Int:=l.foldl (ask1 I H c) []
theorem askL_succ {I:List FieldR→Str→Int} {H:List Int→Int→Bool} {c:CfgR} {l:List RefR} {i:Nat} (hi:i < l.length):askL I H c (l.take (i+1))=ask1 I H c (askL I H c (l.take i)) (l.getD i default):=by
  unfold askL
  rw [List.take_add_one,List.getElem?_eq_getElem hi,Option.toList_some,List.foldl_append,List.getD_eq_getElem?_getD,List.getElem?_eq_getElem hi]
  rfl
theorem ask1_len (I:List FieldR→Str→Int) (H:List Int→Int→Bool) (c:CfgR) (out:List Int) (r:RefR):(ask1 I H c out r).length≤out.length+1:=by
  unfold ask1
  cases askC I H c out r<;>simp
theorem askL_len {I:List FieldR→Str→Int} {H:List Int→Int→Bool} {c:CfgR} {l:List RefR}:∀i,i≤l.length→(askL I H c (l.take i)).length≤i
  | 0,_=>by simp [askL]
  | i+1,hi=>by
    rw [askL_succ (by omega)]
    have h1:=askL_len (I:=I) (H:=H) (c:=c) (l:=l) i (by omega)
    have h2:=ask1_len I H c (askL I H c (l.take i)) (l.getD i default)
    omega
def FAs:Fix Pl:={ keep:=[2,5,10,11,12],lose:=[3,7],ord:=[2] }
noncomputable def LSAs (I:List FieldR→Str→Int) (H:List Int→Int→Bool) (S:St Pl):Option (Bool×LR Pl):=match seenS 39 [2,5,10,11,12] (fixS X0.C FAs S) with
  | some ([.ptr 2 0,.nilS,.pl ⟨.refs,l⟩ .any,.int .i64 n,.int .i64 (.ofNat 0)],[(2,.box false cs)])=>(match xCfg cs with
    | some c=>some (n==(l.length:Int)&&Nat.ble (l.length * 8) big,.leaf (.exit 0) (rAs (askL I H c l)))
    | none=>none)
  | _=>none
theorem LSAs_ok {F:ExprR→List RefR} (hF:SndOf F):SOk X0 (loopAt 18 0) (LSAs locI hasI):=by
  intro S c r h hc
  unfold LSAs at h
  split at h
  · rename_i l n cs hs
    split at h
    · rename_i c hx
      simp only [Option.some.injEq,Prod.mk.injEq] at h
      obtain ⟨rfl,rfl⟩:=h
      simp only [Bool.and_eq_true,Nat.ble_eq,beq_iff_eq] at hc
      obtain ⟨rfl,hb⟩:=hc
      rw [xCfg_eq hx] at hs
      refine Goes.weakPre (Weak.fix xok FAs S) (Goes.pre (keepOf [2,5,10,11,12]) ?_)
      rw [seenS_mask hs]
      refine Goes.weakPre (weakAs c l) ?_
      refine loop_all (Sf:=fun i:Nat=>sAs c l (askL locI hasI c (l.take i)) i) (n:=l.length) (by simp) (fun i hi=>?_) ?_
      · refine goes_ofG (tAs_ok hF) (noTL_ok _ _) (finE_ok _ _ _) (noLoops idsAs.2.2) ((bAs F locI hasI c l _ i).trans ?_)
        have hlen:=askL_len (I:=locI) (H:=hasI) (c:=c) (l:=l) i (by omega)
        rw [lt_t hi,ix_t hi,askL_succ hi,show w64 ((i:Int)+1)=((i+1:Nat):Int) from wrap_nat (show i≤big by omega)]
        generalize askL locI hasI c (l.take i)=o at hlen ⊢
        generalize l.getD i default=r
        unfold ask1 askC
        cases ((bif r.root==n_local then decide (locI c.locals r.name ≥ 0) else false)==true) with
        | false=>rfl
        | true =>
          simp only [cond_true]
          cases hasI o (locI c.locals r.name) with
          | true=>rfl
          | false =>
            simp only [Bool.not_false,cond_true]
            rw [apK_t (by omega)]
      · simp only [List.take_length]
        exact goes_ofG (tAs_ok hF) (noTL_ok _ _) (finE_ok _ _ _) (noLoops idsAs.2.2) ((bAs F locI hasI c l _ l.length).trans (lt_f (by omega) _ _))
    · simp at h
  · simp at h
theorem eAs (F:ExprR→List RefR) (I:List FieldR→Str→Int) (H:List Int→Int→Bool) (c:CfgR) (e:ExprR):evF (tAs F I H) noTL (atL 3 (LSAs I H) noL) 1 Tryz.f18 [.agg (cCfg c),.agg (cExpr e)] =
    ck_ (okA [] (etaE e)) (ck_ (((F (etaE e)).length:Int)==((F (etaE e)).length:Int)&&Nat.ble ((F (etaE e)).length * 8) big) (some (.pl (pInts (askL I H c (F (etaE e)))) .any))):=by kernel_rfl
def asksM (F:ExprR→List RefR) (c:CfgR) (e:ExprR):List Int:=askL locI hasI c (F e)
theorem asks_sound {F:ExprR→List RefR} (hF:SndOf F) (c:CfgR) (e:ExprR) (h:okA [] e=true) (hl:(F e).length * 8≤big):Snd 18 [.agg (cCfg c),.agg (cExpr e)] (.pl (pInts (asksM F c e)) .any):=by
  refine snd_fn (n:=1) (tAs_ok hF) (noTL_ok _ _) (f:=18) (fn:=Tryz.f18) (by kernel_rfl) (loops_of (f:=18) (fn:=Tryz.f18) (by kernel_rfl) (loops_1 idsAs.1 (atL_ok (fun _=>LSAs_ok hF) fun h=>absurd idsAs.2.1 h))) ((eAs F locI hasI c e).trans ?_)
  rw [etaE_eq,ck_t h,ck_t (by rw [beq_self_eq_true,ble_t hl];rfl)]
  rfl
def okF (F:ExprR→List RefR) (e:ExprR):Bool:=okA [] e&&Nat.ble ((F e).length * 8) big
def pAsk (F:ExprR→List RefR) (A:CfgR→ExprR→List Int):List (D Pl)→Option (Bool×D Pl)
  | [.agg cs,d]=>match xCfg cs,asE d with
    | some c,some e=>some (okF F e,.pl (pInts (A c e)) .any)
    | _,_=>none
  | _=>none
theorem pAsk_ok {F:ExprR→List RefR} (hF:SndOf F):∀ds b d,pAsk F (asksM F) ds=some (b,d)→b=true→Snd 18 ds d:=by
  intro ds b d h hb
  unfold pAsk at h
  split at h
  · split at h
    · rename_i h1 h2
      simp only [Option.some.injEq,Prod.mk.injEq] at h
      obtain ⟨rfl,rfl⟩:=h
      unfold okF at hb
      rw [Bool.and_eq_true,Nat.ble_eq] at hb
      rw [xCfg_eq h1]
      exact (asks_sound hF _ _ hb.1 hb.2).pre (.cons (RDle.refl _) (.cons (asE_rdle h2) .nil))
    · simp at h
  · simp at h
def pAny (N:List Int→List Int→Bool):=pNt fun o l=>.bool (N o l)
noncomputable def tNx (F:ExprR→List RefR) (A:CfgR→ExprR→List Int) (I:List FieldR→Str→Int) (H:List Int→Int→Bool) (N:List Int→List Int→Bool):Eng.Told Pl :=
  tell 18 (pAsk F A) (tell 15 (pLoc fun c s=>dI (I c.locals s)) (tell 16 (pHasI fun l x=>.bool (H l x)) (tell 17 (pAny N) tell0)))
theorem tNx_ok {F:ExprR→List RefR} (hF:SndOf F):TOk (tNx F (asksM F) locI hasI anyN):=tell_ok (pAsk_ok hF) (tell_ok (pLoc_ok loc_sound) (tell_ok (pHasI_ok hasI_sound) (tell_ok (pNt_ok anyN_sound) (tell0_ok _))))
def nxt (A:CfgR→ExprR→List Int) (I:List FieldR→Str→Int) (H:List Int→Int→Bool) (M:List Int→List Int→Bool) (c:CfgR) (out:List Int) (f:FieldR):Bool:=bif (!(H out (I c.locals f.name)))==true then !(M out (A c f.e)) else false
theorem eNx (F:ExprR→List RefR) (A:CfgR→ExprR→List Int) (I:List FieldR→Str→Int) (H:List Int→Int→Bool) (M:List Int→List Int→Bool) (c:CfgR) (f:FieldR) (out:List Int) :
    evF (tNx F A I H M) noTL noL 1 Tryz.f14 [.agg (cField f),.ref (cCfg c),.ref [.pl (pInts out) .any]] =
    bif (!(H out (I c.locals f.name)))==true then ck_ (okF F (etaE f.e)) (some (.bool (!(M out (A c (etaE f.e)))))) else some (.bool false):=by kernel_rfl
abbrev nxM (F:ExprR→List RefR):CfgR→List Int→FieldR→Bool:=nxt (asksM F) locI hasI anyN
theorem nx_sound {F:ExprR→List RefR} (hF:SndOf F) (c:CfgR) (out:List Int) (f:FieldR) (h:okF F f.e=true):Snd 14 [.agg (cField f),.ref (cCfg c),.ref [.pl (pInts out) .any]] (.bool (nxM F c out f)):=by
  refine snd_fn (n:=1) (tNx_ok hF) (noTL_ok _ _) (f:=14) (fn:=Tryz.f14) (by kernel_rfl) (loops_of (f:=14) (fn:=Tryz.f14) (by kernel_rfl) (loops_0 (by kernel_rfl))) ((eNx F (asksM F) locI hasI anyN c f out).trans ?_)
  rw [etaE_eq,ck_t h]
  unfold nxM nxt
  cases (!(hasI out (locI c.locals f.name)))==true<;>rfl
def asFd:D Pl→Option FieldR
  | .agg cs=>dField cs
  | _=>none
theorem asFd_rdle {d:D Pl} {x:FieldR} (h:asFd d=some x):RDle X0.C d (.agg (cField x)):=by
  unfold asFd at h
  split at h
  · exact RDle.agg (RDles.of2 (Ty.dec_enc (C:=X0.C) (fun _=>rfl) .fields _ x h))
  · simp at h
def pNx (F:ExprR→List RefR) (B:CfgR→List Int→FieldR→Bool):List (D Pl)→Option (Bool×D Pl)
  | [d,.ref cs,.ref [.pl ⟨.ints,out⟩ .any]]=>match xCfg cs,asFd d with
    | some c,some f=>some (okF F f.e,.bool (B c out f))
    | _,_=>none
  | _=>none
theorem pNx_ok {F:ExprR→List RefR} (hF:SndOf F):∀ds b d,pNx F (nxM F) ds=some (b,d)→b=true→Snd 14 ds d:=by
  intro ds b d h hb
  unfold pNx at h
  split at h
  · split at h
    · rename_i h1 h2
      simp only [Option.some.injEq,Prod.mk.injEq] at h
      obtain ⟨rfl,rfl⟩:=h
      rw [xCfg_eq h1]
      exact (nx_sound hF _ _ _ hb).pre (.cons (asFd_rdle h2) (.cons (RDle.refl _) (.cons (RDle.refl _) .nil)))
    · simp at h
  · simp at h
def tIn (F:ExprR→List RefR) (B:CfgR→List Int→FieldR→Bool):Eng.Told Pl:=tell 14 (pNx F B) tell0
def fnN (c:CfgR) (out:List Int):D Pl:=.fn 14 [.ref (cCfg c),.ref [.pl (pInts out) .any]]
def sIn (c:CfgR) (out:List Int) (l:List FieldR) (i:Int):St Pl:=mkS 19 [(0,.pl (pFields l) .any),(1,fnN c out),(4,dI 0),(7,dI l.length),(8,dI i)] []
def etaFd (f:FieldR):FieldR:=⟨f.name,etaE f.e⟩
theorem etaFd_eq (f:FieldR):etaFd f=f:=by
  obtain ⟨n,e⟩:=f
  show (⟨n,etaE e⟩:FieldR)=_
  rw [etaE_eq]
theorem bIn (F:ExprR→List RefR) (B:CfgR→List Int→FieldR→Bool) (c:CfgR) (out:List Int) (l:List FieldR) (i:Nat):evG (tIn F B) noTL noL 2 (loopAt 13 0) fIi (sIn c out l i) =
    lt_ i l.length (ix_ i l.length (ck_ (okF F (etaE (l.getD i default).e)) (bif B c out (etaFd (l.getD i default)) then some (.ret,rIi 0 i) else some (.normal,sIn c out l (w64 ((i:Int)+1)))))) (some (.exit 0,rIx)):=by kernel_rfl
def okFs (F:ExprR→List RefR) (l:List FieldR):Bool:=l.all fun f=>okF F f.e
def pNe (B:CfgR→List Int→FieldR→Bool) (c:CfgR) (out:List Int) (l:List FieldR):Nat:=ff (fun i=>!(B c out (l.getD i default))) l.length
def idxB (B:CfgR→List Int→FieldR→Bool) (c:CfgR) (out:List Int) (l:List FieldR):Int:=bif Nat.beq (pNe B c out l) l.length then -1 else (pNe B c out l:Int)
def LSIn (F:ExprR→List RefR) (B:CfgR→List Int→FieldR→Bool) (S:St Pl):Option (Bool×LR Pl):=match seenS 19 [0,1,4,7,8] S with
  | some ([.pl ⟨.fields,l⟩ .any,.fn 14 [.ref cs,.ref [.pl ⟨.ints,out⟩ .any]],.int .i64 (.ofNat 0),.int .i64 n,.int .i64 (.ofNat 0)],[])=>(match xCfg cs with
    | some c=>some ((n==(l.length:Int)&&Nat.ble l.length big)&&okFs F l,loopR l.length (fun i=>!(B c out (l.getD i default))) (.exit 0) rIx .ret (fun i=>rIi 0 i))
    | none=>none)
  | _=>none
theorem LSIn_ok {F:ExprR→List RefR} (hF:SndOf F):SOk X0 (loopAt 13 0) (LSIn F (nxM F)):=by
  intro S c r h hc
  unfold LSIn at h
  split at h
  · rename_i l cs out n hs
    split at h
    · rename_i c hx
      simp only [Option.some.injEq,Prod.mk.injEq] at h
      obtain ⟨rfl,rfl⟩:=h
      simp only [Bool.and_eq_true,Nat.ble_eq,beq_iff_eq] at hc
      obtain ⟨⟨rfl,hb⟩,hok⟩:=hc
      rw [xCfg_eq hx] at hs
      refine Goes.pre (keepOf [0,1,4,7,8]) ?_
      rw [seenS_mask hs]
      refine srch (tell_ok (pNx_ok hF) (tell0_ok _)) (noLoops idsFi.2.2) (finE_ok _ _ _) (k:=2) (Sf:=fun i=>sIn c out l i) hb (by simp) (by simp) (fun i hi=>(bIn F (nxM F) c out l i).trans ?_) ((bIn F (nxM F) c out l l.length).trans (lt_f (by omega) _ _))
      have:=List.all_eq_true.1 hok _ (getD_mem (d:=default) hi)
      rw [lt_t hi,ix_t hi,etaE_eq,etaFd_eq,ck_t this]
      cases nxM F c out (l.getD i default)<;>rfl
    · simp at h
  · simp at h
theorem eIn (F:ExprR→List RefR) (B:CfgR→List Int→FieldR→Bool) (c:CfgR) (out:List Int) (l:List FieldR):evF (tIn F B) noTL (atL 2 (LSIn F B) noL) 1 Tryz.f13 [.pl (pFields l) .any,fnN c out] =
    ck_ ((((l.length:Int)==(l.length:Int))&&Nat.ble l.length big)&&okFs F l) (bif Nat.beq (pNe B c out l) l.length then some (dI (-1)) else some (dI (pNe B c out l))):=by kernel_rfl
theorem idxB_sound {F:ExprR→List RefR} (hF:SndOf F) (c:CfgR) (out:List Int) (l:List FieldR) (hok:okFs F l=true):Snd 13 [.pl (pFields l) .any,fnN c out] (dI (idxB (nxM F) c out l)):=by
  refine SoundAt.rooms fun hroom=>snd_fn (n:=1) (tell_ok (pNx_ok hF) (tell0_ok _)) (noTL_ok _ _) (f:=13) (fn:=Tryz.f13) (by kernel_rfl) (loops_of (f:=13) (fn:=Tryz.f13) (by kernel_rfl) (loops_1 idsFi.1 (atL_ok (fun _=>LSIn_ok hF) fun h=>absurd idsFi.2.1 h))) ((eIn F (nxM F) c out l).trans ?_)
  have ha:=fields_big (hroom (.pl (pFields l) .any) (by simp))
  rw [ck_t (by rw [beq_self_eq_true,ble_t (by omega),hok];rfl)]
  unfold idxB
  cases Nat.beq (pNe (nxM F) c out l) l.length<;>rfl
def pIn (F:ExprR→List RefR) (J:CfgR→List Int→List FieldR→Int):List (D Pl)→Option (Bool×D Pl)
  | [.pl ⟨.fields,l⟩ .any,.fn 14 [.ref cs,.ref [.pl ⟨.ints,out⟩ .any]]]=>match xCfg cs with
    | some c=>some (okFs F l,dI (J c out l))
    | none=>none
  | _=>none
theorem pIn_ok {F:ExprR→List RefR} (hF:SndOf F):∀ds b d,pIn F (idxB (nxM F)) ds=some (b,d)→b=true→Snd 13 ds d:=by
  intro ds b d h hb
  unfold pIn at h
  split at h
  · split at h
    · rename_i h1
      simp only [Option.some.injEq,Prod.mk.injEq] at h
      obtain ⟨rfl,rfl⟩:=h
      rw [xCfg_eq h1]
      exact idxB_sound hF _ _ _ hb
    · simp at h
  · simp at h
def tLs (F:ExprR→List RefR) (J:CfgR→List Int→List FieldR→Int):Eng.Told Pl:=tell 13 (pIn F J) tell0
def sLs (c:CfgR) (out:List Int) (n i:Int):St Pl:=mkS 23 [(1,.ptr 1 0),(4,.ptr 4 0),(8,dI n),(9,dI i)] [(20,.arr false (pInts out)),(4,.box false [.arr 20]),(1,.box false (cCfg c))]
def rLs (out:List Int):St Pl:=mkS 23 [(4,.ptr 4 0)] [(20,.arr false (pInts out)),(4,.box false [.arr 20])]
def rLc:St Pl:=mkS 23 [(2,.nilS),(3,dI 13)] []
noncomputable def fLs:Fin:=finE { keep:=[1,4,8,9],ord:=[20,4,1] } { keep:=[4],lose:=[1],ord:=[20,4] } { keep:=[2,3],lose:=[1,4,20] }
theorem bLs (F:ExprR→List RefR) (J:CfgR→List Int→List FieldR→Int) (c:CfgR) (out:List Int) (n i:Nat):evG (tLs F J) noTL noL 1 (loopAt 6 0) fLs (sLs c out n i) =
   bif decide ((i:Int) < (n:Int)) then ck_ (okFs F c.locals) (bif decide (J c out c.locals < 0) then some (.ret,rLc) else apK 8 out (J c out c.locals) fun o=>some (.normal,sLs c o n (w64 ((i:Int)+1)))) else some (.exit 0,rLs out):=by kernel_rfl
theorem idsLs:(loopsAt 6).length=1∧firstId (loopAt 6 0)=3∧loopsOf (loopAt 6 0)=[]:=⟨by kernel_rfl,by kernel_rfl,by kernel_rfl⟩
def locL (J:CfgR→List Int→List FieldR→Int) (c:CfgR):Nat→List Int→Option (List Int)
  | 0,out=>some out
  | k+1,out=>bif decide (J c out c.locals < 0) then none else locL J c k (out++[J c out c.locals])
def outLs:Option (List Int)→Ex×St Pl
  | some out=>(.exit 0,rLs out)
  | none=>(.ret,rLc)
theorem ls_rnd {F:ExprR→List RefR} (hF:SndOf F) (c:CfgR) (hok:okFs F c.locals=true) (hl:c.locals.length≤1000000000):∀(k i:Nat) (out:List Int),i+k=c.locals.length→out.length=i →
    Rnd (loopAt 6 0) (sLs c out c.locals.length i) (outLs (locL (idxB (nxM F)) c k out)).1 (outLs (locL (idxB (nxM F)) c k out)).2
  | 0,i,out,hk,ho=>by
    obtain rfl:i=c.locals.length:=by omega
    exact .stop (by simp [locL,outLs]) (goes_ofG (tell_ok (pIn_ok hF) (tell0_ok _)) (noTL_ok _ _) (finE_ok _ _ _) (noLoops idsLs.2.2) ((bLs F (idxB (nxM F)) c out c.locals.length c.locals.length).trans (by rw [decide_eq_false (by omega)];rfl)))
  | k+1,i,out,hk,ho=>by
    have hbig:big=140737488355328:=rfl
    have step:=fun e S' (h:_=some (e,S'))=>goes_ofG (tell_ok (pIn_ok hF) (tell0_ok _)) (noTL_ok _ _) (finE_ok _ _ _) (noLoops idsLs.2.2) ((bLs F (idxB (nxM F)) c out c.locals.length i).trans h)
    rw [decide_eq_true (show (i:Int) < (c.locals.length:Int) by omega),cond_true,ck_t hok,apK_t (by omega),show w64 ((i:Int)+1)=((i+1:Nat):Int) from wrap_nat (by omega)] at step
    unfold locL
    cases hd:decide (idxB (nxM F) c out c.locals < 0) with
    | true=>rw [hd] at step;exact .stop (by simp [outLs]) (step _ _ rfl)
    | false =>
      rw [hd] at step
      exact .step (step _ _ rfl) (ls_rnd hF c hok hl k (i+1) _ (by omega) (by rw [List.length_append,List.length_singleton];omega))
def sLs0 (c:CfgR) (n:Int):St Pl:=mkS 23 [(1,.ptr 1 0),(4,.ptr 4 0),(8,dI n),(9,dI 0)] [(4,.box false [.nilS]),(1,.box false (cCfg c))]
def FLs0:Fix Pl:={ keep:=[1,4,8,9],nils:=[(.cell 4 0,20,pInts [])],ord:=[20,4,1] }
theorem weakLs_eq (c:CfgR) (n:Int):fixS X0.C FLs0 (sLs0 c n)=sLs c [] n 0:=by kernel_rfl
theorem weakLs (c:CfgR) (n:Int):Weak X0 (sLs0 c n) (sLs c [] n 0):=weakLs_eq c n ▸ Weak.fix xok FLs0 (sLs0 c n)
def LSLs (F:ExprR→List RefR) (J:CfgR→List Int→List FieldR→Int) (S:St Pl):Option (Bool×LR Pl):=match seenS 23 [1,4,8,9] S with
  | some ([.ptr 1 0,.ptr 4 0,.int .i64 n,.int .i64 (.ofNat 0)],[(4,.box false [.nilS]),(1,.box false cs)])=>(match xCfg cs with
    | some c=>some ((n==(c.locals.length:Int)&&Nat.ble c.locals.length 1000000000)&&okFs F c.locals,.ite (locL J c c.locals.length []).isSome (.leaf (.exit 0) (rLs ((locL J c c.locals.length []).getD []))) (.leaf .ret rLc))
    | none=>none)
  | _=>none
theorem LSLs_ok {F:ExprR→List RefR} (hF:SndOf F):SOk X0 (loopAt 6 0) (LSLs F (idxB (nxM F))):=by
  intro S c r h hc
  unfold LSLs at h
  split at h
  · rename_i n cs hs
    split at h
    · rename_i c hx
      simp only [Option.some.injEq,Prod.mk.injEq] at h
      obtain ⟨rfl,rfl⟩:=h
      simp only [Bool.and_eq_true,Nat.ble_eq,beq_iff_eq] at hc
      obtain ⟨⟨rfl,hb⟩,hok⟩:=hc
      rw [xCfg_eq hx] at hs
      refine Goes.pre (keepOf [1,4,8,9]) ?_
      rw [seenS_mask hs]
      refine Goes.weakPre (weakLs c _) ?_
      have:=(ls_rnd hF c hok hb c.locals.length 0 [] (by omega) rfl).goes
      cases hq:locL (idxB (nxM F)) c c.locals.length [] with
      | none=>rw [hq] at this;exact this
      | some q=>rw [hq] at this;exact this
    · simp at h
  · simp at h
theorem eLs (F:ExprR→List RefR) (J:CfgR→List Int→List FieldR→Int) (c:CfgR):evF (tLs F J) noTL (atL 3 (LSLs F J) noL) 1 Tryz.f6 [.agg (cCfg c)] =
    ck_ (((c.locals.length:Int)==(c.locals.length:Int)&&Nat.ble c.locals.length 1000000000)&&okFs F c.locals) (bif (locL J c c.locals.length []).isSome then some (.tup [.pl (pInts ((locL J c c.locals.length []).getD [])) .any,dI 0]) else some (.tup [.nilS,dI 13])):=by kernel_rfl
def locO (F:ExprR→List RefR) (c:CfgR):Option (List Int):=locL (idxB (nxM F)) c c.locals.length []
def encL (o:Option (List Int)):D Pl:=.tup [.pl (pInts (o.getD [])) .any,dI (bif o.isSome then 0 else 13)]
theorem locals_sound {F:ExprR→List RefR} (hF:SndOf F) (c:CfgR) (hok:okFs F c.locals=true) (hl:c.locals.length≤1000000000):Snd 6 [.agg (cCfg c)] (encL (locO F c)):=by
  have go:=fun {d} (h:_=some d)=>snd_fn (n:=1) (tell_ok (pIn_ok hF) (tell0_ok _)) (noTL_ok _ _) (f:=6) (fn:=Tryz.f6) (by kernel_rfl) (loops_of (f:=6) (fn:=Tryz.f6) (by kernel_rfl) (loops_1 idsLs.1 (atL_ok (fun _=>LSLs_ok hF) fun h=>absurd idsLs.2.1 h))) ((eLs F (idxB (nxM F)) c).trans h)
  rw [ck_t (by rw [beq_self_eq_true,ble_t hl,hok];rfl)] at go
  unfold locO
  cases hq:locL (idxB (nxM F)) c c.locals.length [] with
  | none =>
    rw [hq] at go
    exact (go rfl).post (RDle.tup (.cons (RDle.of (.nil _ rfl)) (RDles.refl _)))
  | some q=>rw [hq] at go;exact go rfl
end Lcl
end Go.Proofs.YtpjfilgmfbdfoaaGreat
namespace Go.Proofs.YtpjfilgmfbdfoaaGreat
open Go.Eng
namespace Lcl
theorem pig_le:∀(n:Nat) (l:List Nat),l.Nodup→(∀x∈l,x < n)→l.length≤n
  | 0,l,_,h=>by
    cases l with
    | nil=>simp
    | cons x r=>have:=h x List.mem_cons_self;omega
  | n+1,l,hn,h=>by
    have h1:=pig_le n (l.erase n) (hn.erase n) fun x hx=>by
      have h2:=h x (List.mem_of_mem_erase hx)
      have h3:x≠n:=fun e=>by subst e;exact hn.not_mem_erase hx
      omega
    rw [List.length_erase] at h1
    split at h1<;>omega
theorem pig {n:Nat} {l:List Nat} (hn:l.Nodup) (h:∀x∈l,x < n) (hl:l.length=n):∀i,i < n→i∈l:=by
  intro i hi
  by_cases hm:i∈l
  · exact hm
  · have:=pig_le n (i::l) (List.nodup_cons.2 ⟨hm,hn⟩) fun x hx=>by
      rcases List.mem_cons.1 hx with rfl | hx
      · exact hi
      · exact h x hx
    rw [List.length_cons] at this
    omega
theorem posF_at {l:List FieldR} (hn:(l.map fun f=>f.name).Nodup) {i:Nat} (hi:i < l.length):locI l (l.getD i default).name=(i:Int):=by
  have hp:posF l (l.getD i default).name=i:=by
    rcases ff_spec l.length (fun j=>!(isF l (l.getD i default).name j)) with ⟨_,h2⟩ | ⟨h1,h2,h3⟩
    · have:=h2 i hi
      simp [isF] at this
    · have h1:posF l (l.getD i default).name < l.length:=h1
      have h2:isF l (l.getD i default).name (posF l (l.getD i default).name)=true:=by
        have:(!(isF l (l.getD i default).name (posF l (l.getD i default).name)))=false:=h2
        simpa using this
      unfold isF at h2
      have h4:=beq_iff_eq.1 h2
      generalize posF l (l.getD i default).name=j at *
      have e1:(l.map fun f=>f.name)[j]?=some (l.getD j default).name:=by
        rw [List.getElem?_map,List.getElem?_eq_getElem h1,List.getD_eq_getElem?_getD,List.getElem?_eq_getElem h1];rfl
      have e2:(l.map fun f=>f.name)[i]?=some (l.getD i default).name:=by
        rw [List.getElem?_map,List.getElem?_eq_getElem hi,List.getD_eq_getElem?_getD,List.getElem?_eq_getElem hi];rfl
      have hj:j < (l.map fun f=>f.name).length:=by rw [List.length_map];exact h1
      exact (List.getElem?_inj hj hn).1 (by rw [e1,e2,h4])
  unfold locI
  rw [hp,show Nat.beq i l.length=false from by
    cases hb:Nat.beq i l.length with
    | false=>rfl
    | true=>have:=beqN.1 hb;omega]
  rfl
theorem locI_lt (l:List FieldR) (s:Str):locI l s < (l.length:Int)∧-1≤locI l s:=by
  unfold locI
  have:=ff_le (fun i=>!(isF l s i)) l.length
  cases hb:Nat.beq (posF l s) l.length with
  | true=>simp only [cond_true];omega
  | false =>
    have h1:posF l s≠l.length:=fun e=>by rw [beqN.2 e] at hb;cases hb
    have h2:posF l s≤l.length:=this
    simp only [cond_false]
    omega
theorem ask1_mem (c:CfgR) (o:List Int) (r:RefR) {a:Int} (h:a∈o):a∈ask1 locI hasI c o r:=by
  unfold ask1
  cases askC locI hasI c o r with
  | true=>exact List.mem_append.2 (.inl h)
  | false=>exact h
theorem ask1_has (c:CfgR) (o:List Int) (r:RefR) (hr:(r.root==n_local)=true) (h0:0≤locI c.locals r.name):locI c.locals r.name∈ask1 locI hasI c o r:=by
  unfold ask1 askC
  rw [hr,decide_eq_true (show locI c.locals r.name ≥ 0 from h0)]
  simp only [cond_true,BEq.rfl]
  cases hh:hasI o (locI c.locals r.name) with
  | true=>exact (hasI_iff _ _).1 hh
  | false=>exact List.mem_append.2 (.inr List.mem_cons_self)
theorem ask_from (c:CfgR):∀(l:List RefR) (o:List Int),(∀a∈o,a∈l.foldl (ask1 locI hasI c) o)∧∀r∈l,(r.root==n_local)=true→0≤locI c.locals r.name→locI c.locals r.name∈l.foldl (ask1 locI hasI c) o
  | [],o=>⟨fun a h=>h,fun r h=>by simp at h⟩
  | x::l,o=>by
    obtain ⟨h1,h2⟩:=ask_from c l (ask1 locI hasI c o x)
    refine ⟨fun a h=>h1 a (ask1_mem c o x h),fun r hr hl h0=>?_⟩
    rcases List.mem_cons.1 hr with rfl | hr
    · exact h1 _ (ask1_has c o r hl h0)
    · exact h2 r hr hl h0
theorem asksM_mem (F:ExprR→List RefR) (c:CfgR) (e:ExprR) {r:RefR} (hr:r∈F e) (hl:(r.root==n_local)=true) (h0:0≤locI c.locals r.name):locI c.locals r.name∈asksM F c e:=(ask_from c (F e) []).2 r hr hl h0
structure Good (F:ExprR→List RefR) (c:CfgR) (out:List Int):Prop where
  nd:out.Nodup
  lo:∀x∈out,0≤x∧x < (c.locals.length:Int)
  ah:∀(p:Nat) (h:p < out.length),∀a∈asksM F c (c.locals.getD out[p].toNat default).e,a∈out.take p
theorem Good.nil (F:ExprR→List RefR) (c:CfgR):Good F c []:=⟨List.nodup_nil,by simp,fun p h=>by simp at h⟩
theorem Good.step {F:ExprR→List RefR} {c:CfgR} (hn:(c.locals.map fun f=>f.name).Nodup) {out:List Int} (h:Good F c out) (hj:¬ idxB (nxM F) c out c.locals < 0):Good F c (out++[idxB (nxM F) c out c.locals]):=by
  unfold idxB at hj ⊢
  cases hb:Nat.beq (pNe (nxM F) c out c.locals) c.locals.length with
  | true=>rw [hb] at hj;exact absurd (show (-1:Int) < 0 by decide) hj
  | false =>
  rw [cond_false]
  rcases ff_spec c.locals.length (fun i=>!(nxM F c out (c.locals.getD i default))) with ⟨h1,_⟩ | ⟨h1,h2,_⟩
  · have h1:pNe (nxM F) c out c.locals=c.locals.length:=h1
    rw [beqN.2 h1] at hb
    cases hb
  · have h1:pNe (nxM F) c out c.locals < c.locals.length:=h1
    have h2:nxM F c out (c.locals.getD (pNe (nxM F) c out c.locals) default)=true:=by
      have:(!(nxM F c out (c.locals.getD (pNe (nxM F) c out c.locals) default)))=false:=h2
      simpa using this
    generalize pNe (nxM F) c out c.locals=j at *
    unfold nxM nxt at h2
    rw [posF_at hn h1] at h2
    cases h3:hasI out (j:Int) with
    | true=>rw [h3] at h2;cases h2
    | false =>
    rw [h3] at h2
    simp only [Bool.not_false,BEq.rfl,cond_true] at h2
    have h4:=anyN_not _ _ (by simpa using h2)
    have h5:(j:Int) ∉ out:=fun hm=>by rw [(hasI_iff _ _).2 hm] at h3;cases h3
    refine ⟨?_,fun x hx=>?_,fun p hp=>?_⟩
    · rw [List.nodup_append]
      refine ⟨h.nd,by simp,fun a ha b hb=>?_⟩
      rw [List.mem_singleton] at hb
      subst hb
      intro e
      subst e
      exact h5 ha
    · rcases List.mem_append.1 hx with hx | hx
      · exact h.lo x hx
      · rw [List.mem_singleton] at hx
        subst hx
        omega
    · rw [List.length_append,List.length_singleton] at hp
      by_cases hlt:p < out.length
      · rw [List.getElem_append_left hlt,List.take_append_of_le_length (by omega)]
        exact h.ah p hlt
      · obtain rfl:p=out.length:=by omega
        rw [List.getElem_append_right (by omega)]
        simp only [Nat.sub_self,List.getElem_cons_zero,List.take_left,Int.toNat_natCast]
        exact h4
theorem locL_good {F:ExprR→List RefR} {c:CfgR} (hn:(c.locals.map fun f=>f.name).Nodup):∀(k:Nat) (out q:List Int),Good F c out→locL (idxB (nxM F)) c k out=some q→Good F c q∧q.length=out.length+k
  | 0,out,q,h,e=>by
    obtain rfl:=Option.some.inj e
    exact ⟨h,rfl⟩
  | k+1,out,q,h,e=>by
    unfold locL at e
    cases hd:decide (idxB (nxM F) c out c.locals < 0) with
    | true=>rw [hd] at e;cases e
    | false =>
      rw [hd,cond_false] at e
      obtain ⟨h1,h2⟩:=locL_good hn k _ q (h.step hn (of_decide_eq_false hd)) e
      refine ⟨h1,?_⟩
      rw [h2,List.length_append,List.length_singleton]
      omega
def atF (n:Nat) (l:List Int):Nat→List Int
  | 0=>List.replicate n 0
  | i+1=>(atF n l i).set (l.getD i 0).toNat ((i:Int)+1)
theorem atF_len (n:Nat) (l:List Int):∀i,(atF n l i).length=n
  | 0=>List.length_replicate
  | i+1=>by rw [atF,List.length_set,atF_len n l i]
theorem getD_setI {l:List Int} {i j:Nat} {x:Int}:(l.set i x).getD j 0=if i=j∧j < l.length then x else l.getD j 0:=by
  rw [List.getD_eq_getElem?_getD,List.getElem?_set]
  split
  · rename_i h
    subst h
    by_cases hl:i < l.length
    · rw [if_pos hl,if_pos (show i=i∧i < l.length from ⟨rfl,hl⟩)];rfl
    · rw [if_neg hl,if_neg (show ¬ (i=i∧i < l.length) from fun h=>hl h.2)];simp [List.getD_eq_getElem?_getD,hl]
  · rename_i h
    rw [if_neg (by omega),←List.getD_eq_getElem?_getD]
theorem atF_no {n:Nat} {l:List Int} {j:Nat}:∀i,i≤l.length→(∀p,p < i→(l.getD p 0).toNat≠j)→(atF n l i).getD j 0=0
  | 0,_,_=>by
    unfold atF
    rw [List.getD_eq_getElem?_getD,List.getElem?_replicate]
    split<;>rfl
  | i+1,hi,h=>by
    rw [atF,getD_setI,if_neg (by intro hh;exact h i (by omega) hh.1)]
    exact atF_no i (by omega) fun p hp=>h p (by omega)
theorem atF_yes {n:Nat} {l:List Int} {j p:Nat} (hj:j < n) (hp:(l.getD p 0).toNat=j):∀i,i≤l.length→p < i→(∀q,q < i→(l.getD q 0).toNat=j→q=p)→(atF n l i).getD j 0=(p:Int)+1
  | 0,_,h,_=>by omega
  | i+1,hi,h,hu=>by
    rw [atF,getD_setI,atF_len]
    by_cases he:(l.getD i 0).toNat=j
    · obtain rfl:=hu i (by omega) he
      rw [if_pos ⟨he,hj⟩]
    · rw [if_neg (fun hh=>he hh.1)]
      have hne:p≠i:=fun e=>by subst e;exact he hp
      exact atF_yes hj hp i (by omega) (by omega) fun q hq=>hu q (by omega)
theorem getD_eqI {l:List Int} {i:Nat} (h:i < l.length):l.getD i 0=l[i]:=by
  rw [List.getD_eq_getElem?_getD,List.getElem?_eq_getElem h];rfl
theorem Good.uniq {F:ExprR→List RefR} {c:CfgR} {out:List Int} (h:Good F c out) {p q:Nat} (hp:p < out.length) (hq:q < out.length) (he:(out.getD p 0).toNat=(out.getD q 0).toNat):p=q:=by
  rw [getD_eqI hp,getD_eqI hq] at he
  have h1:=h.lo _ (List.getElem_mem hp)
  have h2:=h.lo _ (List.getElem_mem hq)
  exact (List.getElem?_inj hp h.nd).1 (by rw [List.getElem?_eq_getElem hp,List.getElem?_eq_getElem hq];exact congrArg some (by omega))
theorem Good.first {F:ExprR→List RefR} {c:CfgR} {out:List Int} (h:Good F c out) {i:Nat} (hi:i < out.length):0≤out.getD i 0∧out.getD i 0 < (c.locals.length:Int)∧(atF c.locals.length out i).getD (out.getD i 0).toNat 0=0:=by
  have h1:=h.lo _ (List.getElem_mem hi)
  rw [←getD_eqI hi] at h1
  refine ⟨h1.1,h1.2,atF_no i (by omega) fun p hp e=>?_⟩
  have:=h.uniq (by omega) hi e
  omega
theorem Good.ahead {F:ExprR→List RefR} {c:CfgR} {out:List Int} (h:Good F c out) (hl:out.length=c.locals.length) {i:Nat} (hi:i < c.locals.length) {a:Int} (ha:a∈asksM F c (c.locals.getD i default).e) :
    (atF c.locals.length out out.length).getD a.toNat 0 < (atF c.locals.length out out.length).getD i 0:=by
  have hm:i∈out.map Int.toNat:=by
    refine pig (n:=c.locals.length) ?_ (fun x hx=>?_) (by rw [List.length_map];exact hl) i hi
    · rw [List.nodup_iff_pairwise_ne,List.pairwise_map]
      refine List.Pairwise.imp_of_mem ?_ (List.nodup_iff_pairwise_ne.1 h.nd)
      intro a b ha hb hne e
      have h1:=h.lo a ha
      have h2:=h.lo b hb
      exact hne (by omega)
    · obtain ⟨y,hy,rfl⟩:=List.mem_map.1 hx
      have:=h.lo y hy
      omega
  obtain ⟨y,hy,hyi⟩:=List.mem_map.1 hm
  obtain ⟨p,hp,rfl⟩:=List.mem_iff_getElem.1 hy
  have ha:=h.ah p hp a (by rw [hyi];exact ha)
  obtain ⟨q,hq,e⟩:=List.mem_iff_getElem.1 ha
  rw [List.length_take] at hq
  rw [List.getElem_take] at e
  have e1:(atF c.locals.length out out.length).getD i 0=(p:Int)+1:=atF_yes hi (by rw [getD_eqI hp];exact hyi) out.length (Nat.le_refl _) hp fun q hq hqe=>h.uniq hq hp (by rw [hqe,getD_eqI hp];exact hyi.symm)
  have e2:(atF c.locals.length out out.length).getD a.toNat 0=(q:Int)+1:=atF_yes (by have:=h.lo a (by rw [←e];exact List.getElem_mem _);omega) (by rw [getD_eqI (by omega),e]) out.length (Nat.le_refl _) (by omega) fun r hr hre=>h.uniq hr (by omega) (by rw [hre,getD_eqI (i:=q) (by omega),e])
  rw [e1,e2]
  omega
end Lcl
end Go.Proofs.YtpjfilgmfbdfoaaGreat
