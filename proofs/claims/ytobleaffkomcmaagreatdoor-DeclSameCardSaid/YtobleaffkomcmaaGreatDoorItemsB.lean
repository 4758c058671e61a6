/-
  THE DOCUMENT's READER OF ITEMS: the rounds of its loops.
-/
import Derived.Test.YtobleaffkomcmaaGreatDoorTotL
namespace Go.Proofs.YtobleaffkomcmaaGreatDoor
open Go.Eng
structure DgR where
  c:Int
  p:PosR
  deriving Inhabited
def dg0:DgR:=⟨0,p00⟩
def tokI (l:List TokR) (a:Int):TokR:=l.getD a.toNat default
def lenI (l:List TokR):Int:=(l.length:Int)
def dgM (c:Int) (l:List TokR) (a:Int):DgR:=⟨c,(tokI l (bif decide (a ≥ lenI l) then w64 (lenI l - 1) else a)).p⟩
def sgI (l:List TokR) (a:Int) (s:Str):Bool:=bif (bif decide (a < lenI l) then (tokI l a).kind==4 else false) then (tokI l a).s==s else false
def kdI (l:List TokR) (a:Int) (k:Int):Bool:=bif decide (a < lenI l) then (tokI l a).kind==k else false
def atM (l:List TokR) (a:Int) (r:PR):ExprR×Int×DgR :=
  bif (bif !r.b.is then decide (deepE r.e > 24) else false) then (e00,0,⟨12,(tokA l a).p⟩)
  else bif r.b.is then (e00,0,⟨r.b.c,r.b.p⟩) else (r.e,r.a,dg0)
structure PI where
  l:List ItemR
  a:Int
  d:DgR
  deriving Inhabited
structure AR where
  e:ExprR
  a:Int
  d:DgR
  deriving Inhabited
structure LB where
  l:List Str
  a:Int
  bad:Bool
  d:DgR
  deriving Inhabited
def twI (out:List ItemR) (s:Str):Bool:=!((List.range out.length).all fun i=>!(bif !(out.getD i default).block then (out.getD i default).name==s else false))
section
variable {β:Type}
def twoP (p:List PartR):Bool:=bif decide ((p.length:Int) > 1) then true else bif (p.length:Int)==1 then (p.getD 0 default).expr else false
def lbG (l:List TokR) (ls:List Str) (a:Int) (s:Str) (A:List Str→Str→(List Str→Option β)→Option β) (N:List Str→Int→Option β) (R:Int→DgR→Option β):Option β :=
  bif decide ((ls.length:Int) ≥ 4) then R a (dgM 3 l a) else A ls s fun o=>N o (w64 (a+1))
def lbB (l:List TokR) (ls:List Str) (a:Int) (A:List Str→Str→(List Str→Option β)→Option β) (N:List Str→Int→Option β) (R:Int→DgR→Option β) (X:Option β):Option β :=
  bif kdI l a 3 then (bif twoP (tokI l a).parts then R a (dgM 4 l a)
    else bif ((tokI l a).parts.length:Int)==1 then lbG l ls a ((tokI l a).parts.getD 0 default).s A N R else lbG l ls a [] A N R)
  else X
def itB (l:List TokR) (out:List ItemR) (a:Int) (A:Int→(AR→Option β)→Option β) (Q:Int→(PI→Option β)→Option β) (L:Int→(LB→Option β)→Option β)
    (P:List ItemR→ItemR→(List ItemR→Option β)→Option β) (N:List ItemR→Int→Option β) (R:Int→DgR→Option β) (X:Option β):Option β :=
  bif kdI l a 1 then (bif decide ((out.length:Int) ≥ 128) then R a (dgM 3 l a)
    else bif sgI l (w64 (a+1)) [61] then (bif twI out (tokI l a).s then R a (dgM 10 l a)
      else A (w64 (a+2)) fun r=>bif r.d.c != 0 then R a r.d else P out ⟨false,(tokI l a).s,[],r.e,[],(tokI l a).p⟩ fun o=>N o r.a)
    else L (w64 (a+1)) fun x=>bif x.bad then R x.a x.d else bif !(sgI l x.a [123]) then R x.a (dgM 4 l x.a)
      else Q (w64 (x.a+1)) fun y=>bif y.d.c != 0 then R x.a y.d else bif !(sgI l y.a [125]) then R x.a (dgM 4 l y.a)
        else P out ⟨true,(tokI l a).s,x.l,e00,y.l,(tokI l a).p⟩ fun o=>N o (w64 (y.a+1)))
  else X
end
abbrev Ats:=List TokR→Int→Option AR
def gI (l:List TokR) (a:Int):Bool:=decide (0≤a)&&(Nat.blt 0 l.length&&Nat.ble l.length big)
def lbL (l:List TokR):Nat→List Str→Int→Option LB
  | 0,_,_=>none
  | m+1,ls,a=>bif gI l a then lbB l ls a (fun o s K=>K (o++[s])) (lbL l m) (fun a d=>some ⟨[],a,true,d⟩) (some ⟨ls,a,false,dg0⟩) else none
def thA {γ β:Type} (f:γ→Int) (x:Option γ) (K:γ→Option β):Option β:=thn x fun y=>bif decide (0≤f y) then K y else none
def itL (l:List TokR) (A:Int→Option AR) (Q:Int→Option PI) (m:Nat):Nat→List ItemR→Int→Option (Bool×PI)
  | 0,_,_=>none
  | k+1,out,a=>bif gI l a then itB l out a (fun a K=>thn (A a) K) (fun a K=>thA PI.a (Q a) K) (fun a K=>thA LB.a (lbL l m [] a) K) (fun o x K=>K (o++[x])) (itL l A Q m k) (fun a d=>some (true,⟨[],a,d⟩)) (some (false,⟨out,a,dg0⟩)) else none
def itM (l:List TokR) (A:Int→Option AR):Nat→Int→Option PI
  | 0,_=>none
  | n+1,a=>(itL l A (itM l A n) n n [] a).map (·.2)
end Go.Proofs.YtobleaffkomcmaaGreatDoor
namespace Go.Proofs.YtobleaffkomcmaaGreatDoor
open Go.Eng
set_option maxRecDepth 100000
def ixg {β:Type} (l:List TokR) (a:Int) (g:Bool) (x:Option β):Option β:=bif (decide (0≤a)&&decide (a < (l.length:Int)))||!g then x else none
theorem ixg_t {β:Type} {l:List TokR} {a:Int} {g:Bool} (h:g=true→0≤a∧a < (l.length:Int)) (x:Option β):ixg l a g x=x:=by
  unfold ixg
  cases g with
  | false=>simp
  | true =>
    obtain ⟨h1,h2⟩:=h rfl
    rw [decide_eq_true h1,decide_eq_true h2];rfl
theorem eSgI (l:List TokR) (a:Int) (s:Str):evF tell0 noTL noL 1 Tryz.f68 [.pl (pToks l) .any,dI a,.str s] =
  ixg l a (decide (a < (l.length:Int))==true) (ixg l a ((bif decide (a < (l.length:Int)) then (tokI l a).kind==4 else false)==true) (some (.bool (sgI l a s)))):=by kernel_rfl
theorem sgI_sound {l:List TokR} {a:Int} (h:0≤a) (s:Str):Snd 68 [.pl (pToks l) .any,dI a,.str s] (.bool (sgI l a s)):=by
  refine snd_fn (n:=1) (tell0_ok _) (noTL_ok _ _) (f:=68) (fn:=Tryz.f68) (by kernel_rfl) (loops_of (f:=68) (fn:=Tryz.f68) (by kernel_rfl) (loops_0 (by kernel_rfl))) ((eSgI l a s).trans ?_)
  have h1:∀b:Bool,(decide (a < (l.length:Int))=true)→0≤a∧a < (l.length:Int):=fun _ h2=>⟨h,of_decide_eq_true h2⟩
  rw [ixg_t fun h2=>h1 true (by simpa using h2),ixg_t fun h2=>?_]
  cases hd:decide (a < (l.length:Int)) with
  | true=>exact h1 true hd
  | false=>rw [hd] at h2;cases h2
theorem eDgM (l:List TokR) (a c:Int):evF tell0 noTL noL 1 Tryz.f29 [dI c,.pl (pToks l) .any,dI a] =
  bif decide (a ≥ lenI l) then ck_ ((decide (0≤w64 (lenI l - 1))&&decide (w64 (lenI l - 1) < (l.length:Int)))||false) (some (.agg (cDg c (tokI l (w64 (lenI l - 1))).p)))
  else ck_ ((decide (0≤a)&&decide (a < (l.length:Int)))||false) (some (.agg (cDg c (tokI l a).p))):=by kernel_rfl
theorem dgM_sound {l:List TokR} {a:Int} (h:0≤a) (h0:0 < l.length) (c:Int):Snd 29 [dI c,.pl (pToks l) .any,dI a] (.agg (cDg c (dgM c l a).p)):=by
  refine SoundAt.rooms fun hroom=>snd_fn (n:=1) (tell0_ok _) (noTL_ok _ _) (f:=29) (fn:=Tryz.f29) (by kernel_rfl) (loops_of (f:=29) (fn:=Tryz.f29) (by kernel_rfl) (loops_0 (by kernel_rfl))) ((eDgM l a c).trans ?_)
  have hk:l.length * 80≤big:=hroom (.pl (pToks l) .any) (by simp)
  have hbig:big=140737488355328:=rfl
  unfold dgM
  by_cases h1:a ≥ lenI l
  · have hw:w64 (lenI l - 1)=lenI l - 1:=wrap_in _ (by unfold lenI;omega)
    rw [decide_eq_true h1,cond_true,cond_true,hw,ck_t (by unfold lenI;rw [decide_eq_true (by omega),decide_eq_true (by omega)];rfl)]
  · rw [decide_eq_false h1,cond_false,cond_false,ck_t (by unfold lenI at h1;rw [decide_eq_true h,decide_eq_true (by omega)];rfl)]
def tAtI (P:List TokR→Reads):Eng.Told Pl:=tH (tell 95 (pe1 fun e=>(true,dI (deepE e))) (tell 94 (pRd P) tell0))
theorem tAtI_ok {P:List TokR→Reads} (hP:SndP P):TOk (tAtI P):=tH_ok (tell_ok (pe1_ok fun a _=>rdepth_sound a) (tell_ok (pRd_ok hP) (tell0_ok _)))
def okAtI (r:PR):Option (D Pl):=some (.tup [.agg (cExpr r.e),dI r.a,.agg (cDg 0 p00)])
def erAtI (c:Int) (p:PosR):Option (D Pl):=some (.tup [.agg zE,dI 0,.agg (cDg c p)])
theorem eAtI (l:List TokR) (a:Int) (P:List TokR→Reads):evF (tAtI P) noTL noL 2 Tryz.f69 [.pl (pToks l) .any,dI a] =
  ckP (P l 0 a) fun r=>bif (!r.b.is)==true then (bif decide (deepE (etaE r.e) > 24) then erAtI 12 (tokA l a).p else (bif r.b.is then erAtI r.b.c r.b.p else okAtI r)) else bif r.b.is then erAtI r.b.c r.b.p else okAtI r:=by kernel_rfl
theorem at_sound {P:List TokR→Reads} (hP:SndP P) {l:List TokR} {a:Int} {r:PR} (h:P l 0 a=some r):Snd 69 [.pl (pToks l) .any,dI a] (.tup [.agg (cExpr (atM l a r).1),dI (atM l a r).2.1,.agg (cDg (atM l a r).2.2.c (atM l a r).2.2.p)]):=by
  have go:=fun {d} (h:_=some d)=>snd_fn (n:=2) (tAtI_ok hP) (noTL_ok _ _) (f:=69) (fn:=Tryz.f69) (by kernel_rfl) (loops_of (f:=69) (fn:=Tryz.f69) (by kernel_rfl) (loops_0 (by kernel_rfl))) ((eAtI l a P).trans h)
  have er:∀(c:Int) (p:PosR),RDle X0.C (.tup [.agg zE,dI 0,.agg (cDg c p)]) (.tup [.agg (cExpr e00),dI 0,.agg (cDg c p)]):=fun c p=>RDle.tup (.cons zE_rdle (RDles.refl _))
  rw [h,ckP_eq] at go
  simp only [thn,etaE_eq] at go
  unfold atM
  cases c1:r.b.is with
  | true =>
    rw [c1] at go
    simp only [Bool.not_true,cond_false,cond_true]
    exact (go rfl).post (er _ _)
  | false =>
    rw [c1] at go
    simp only [Bool.not_false,BEq.rfl,cond_true] at go ⊢
    cases c2:decide (deepE r.e > 24) with
    | true=>rw [c2] at go;exact (go rfl).post (er _ _)
    | false=>rw [c2] at go;exact go rfl
mutual
def isz:ItemR→Nat
  | ⟨_,_,_,_,l,_⟩=>1+iszs l
def iszs:List ItemR→Nat
  | []=>0
  | v::r=>isz v+iszs r
end
theorem isz_eq (x:ItemR):isz x=1+iszs x.items:=by
  obtain ⟨b,n,ls,e,l,p⟩:=x
  simp only [isz]
theorem iszs_mem {l:List ItemR} {x:ItemR} (h:x∈l):isz x≤iszs l:=by
  induction l with
  | nil=>simp at h
  | cons y r ih =>
    simp only [iszs]
    rcases List.mem_cons.1 h with rfl | h
    · omega
    · have:=ih h;omega
def accI (D:List ItemR→Int) (l:List ItemR):Nat→Int
  | 0=>0
  | i+1=>bif (l.getD i default).block then mx (w64 (1+D (l.getD i default).items)) (accI D l i) else accI D l i
def dpI:Nat→List ItemR→Int
  | 0,_=>0
  | n+1,l=>accI (dpI n) l l.length
def pDpI (n:Nat):List (D Pl)→Option (Bool×D Pl)
  | [d]=>match asL .items d with
    | some l=>some (Nat.blt (iszs l) n,dI (dpI n l))
    | none=>none
  | _=>none
def tDpI (n:Nat):Eng.Told Pl:=tell 30 (pDpI n) tell0
def sDpI (l:List ItemR) (x i:Int):St Pl:=mkS 26 [(0,.pl (pItems l) .any),(3,dI x),(4,dI i)] []
theorem bDpI (l:List ItemR) (x:Int) (n i:Nat):evC (tDpI n) noTL noL 1 (loopAt 30 0) [0,3,4] (sDpI l x i) =
  lt_ i l.length (ix_ i l.length (bif (l.getD i default).block then ix_ i l.length (ck_ (Nat.blt (iszs (l.getD i default).items) n) (some (.normal,sDpI l (mx (w64 (1+dpI n (l.getD i default).items)) x) (w64 ((i:Int)+1))))) else some (.normal,sDpI l x (w64 ((i:Int)+1))))) (some (.exit 0,sDpI l x i)):=by kernel_rfl
theorem idsDpI:(loopsAt 30).length=1∧firstId (loopAt 30 0)=3∧loopsOf (loopAt 30 0)=[]:=⟨by kernel_rfl,by kernel_rfl,by kernel_rfl⟩
def LSDpI (n:Nat) (S:St Pl):Option (Bool×LR Pl):=match seenS 26 [0,3,4] S with
  | some ([.pl ⟨.items,l⟩ .any,.int .i64 (.ofNat 0),.int .i64 (.ofNat 0)],[])=>some (Nat.ble l.length big&&Nat.ble (iszs l) n,.leaf (.exit 0) (sDpI l (accI (dpI n) l l.length) l.length))
  | _=>none
theorem LSDpI_ok {n:Nat} (hT:TOk (tDpI n)):SOk X0 (loopAt 30 0) (LSDpI n):=by
  intro S c r h hc
  unfold LSDpI at h
  split at h
  · rename_i l hs
    simp only [Option.some.injEq,Prod.mk.injEq] at h
    obtain ⟨rfl,rfl⟩:=h
    simp only [Bool.and_eq_true,Nat.ble_eq] at hc
    obtain ⟨hb,hsz⟩:=hc
    refine Goes.pre (keepOf [0,3,4]) ?_
    rw [seenS_mask hs]
    refine loop_all (Sf:=fun i=>sDpI l (accI (dpI n) l i) i) (n:=l.length) (by simp) (fun i hi=>?_) ?_
    · refine goes_of hT (noTL_ok _ _) (noLoops idsDpI.2.2) ((bDpI l _ n i).trans ?_)
      have h1:=iszs_mem (getD_mem (d:=default) hi:l.getD i default∈l)
      have h2:=isz_eq (l.getD i default)
      rw [lt_t hi,ix_t hi,ix_t hi,ck_t (blt_t (by omega)),show w64 ((i:Int)+1)=((i+1:Nat):Int) from wrap_nat (show i≤big by omega)]
      simp only [accI]
      cases (l.getD i default).block<;>rfl
    · exact goes_of hT (noTL_ok _ _) (noLoops idsDpI.2.2) ((bDpI l _ n l.length).trans (by rw [lt_f (by omega)]))
  · simp at h
theorem eDpI (l:List ItemR) (n:Nat):evF (tDpI n) noTL (atL 3 (LSDpI n) noL) 1 Tryz.f30 [.pl (pItems l) .any] =
    ck_ (Nat.ble l.length big&&Nat.ble (iszs l) n) (some (dI (accI (dpI n) l l.length))):=by kernel_rfl
theorem dpI_n:∀n l,iszs l < n→Snd 30 [.pl (pItems l) .any] (dI (dpI n l)):=by
  intro n
  induction n with
  | zero=>intro l h;omega
  | succ n ih =>
    intro l hlt
    have hT:TOk (tDpI n):=tell_ok (fun ds c d h hc=>by
      unfold pDpI at h
      split at h
      · split at h
        · rename_i h1
          simp only [Option.some.injEq,Prod.mk.injEq] at h
          obtain ⟨rfl,rfl⟩:=h
          exact (ih _ (by simpa using hc)).pre (.cons (asL_rdle h1) .nil)
        · simp at h
      · simp at h) (tell0_ok _)
    refine SoundAt.rooms fun hroom=>snd_fn (n:=1) hT (noTL_ok _ _) (f:=30) (fn:=Tryz.f30) (by kernel_rfl) (loops_of (f:=30) (fn:=Tryz.f30) (by kernel_rfl) (loops_1 idsDpI.1 (atL_ok (fun _=>LSDpI_ok hT) fun h=>absurd idsDpI.2.1 h))) ((eDpI l n).trans ?_)
    have hk:l.length * 288≤big:=hroom (.pl (pItems l) .any) (by simp)
    rw [ck_t (by rw [ble_t (by omega),ble_t (by omega)];rfl)]
    rfl
def deepI (l:List ItemR):Int:=dpI (iszs l+1) l
theorem deepI_sound (l:List ItemR):Snd 30 [.pl (pItems l) .any] (dI (deepI l)):=dpI_n _ l (Nat.lt_succ_self _)
end Go.Proofs.YtobleaffkomcmaaGreatDoor
namespace Go.Proofs.YtobleaffkomcmaaGreatDoor
open Go.Eng
set_option maxRecDepth 100000
def canT1 (c:Nat×Nat) (S:St Pl):St Pl:=match getT S.tm c.1 with
  | .arr o=>bif lowN o&&lowN c.2 then renS (swp o c.2) S else S
  | _=>S
def canTS:List (Nat×Nat)→St Pl→St Pl
  | [],S=>S
  | c::r,S=>canTS r (canT1 c S)
theorem Weak.canT1 (c:Nat×Nat) (S:St Pl):Weak X0 S (canT1 c S):=by
  unfold Proofs.YtobleaffkomcmaaGreatDoor.canT1
  split
  · rename_i o _
    cases hb:lowN o&&lowN c.2 with
    | false=>exact Weak.refl S
    | true=>exact Weak.canN xok o c.2 S hb
  · exact Weak.refl S
theorem Weak.canT:∀(l:List (Nat×Nat)) (S:St Pl),Weak X0 S (canTS l S)
  | [],S=>Weak.refl S
  | c::r,S=>(Weak.canT1 c S).trans (Weak.canT r _)
abbrev Fin:=Ex→St Pl→St Pl
def Fok (f:Fin):Prop:=∀e S,Weak X0 S (f e S)
noncomputable def fixT (F:Fix Pl) (c:List (Nat×Nat)) (S:St Pl):St Pl:=ordX F.ord (canTS c (fixS X0.C F S))
theorem Weak.fixT (F:Fix Pl) (c:List (Nat×Nat)) (S:St Pl):Weak X0 S (fixT F c S):=(Weak.fix xok F S).trans ((Weak.canT c _).trans (Weak.ordX _ _))
noncomputable def finT (F:Fix Pl) (c:List (Nat×Nat)) (Fr:Fix Pl):Fin:=fun e S=>match e with
  | .ret=>fixS X0.C Fr S
  | _=>fixT F c S
theorem finT_ok (F:Fix Pl) (c:List (Nat×Nat)) (Fr:Fix Pl):Fok (finT F c Fr):=fun e S=>by
  unfold finT
  split
  · exact Weak.fix xok _ _
  · exact Weak.fixT _ _ _
noncomputable abbrev evG (R:Eng.Told Pl) (TL:LoopsT Pl) (L:LK Pl) (n:Nat) (code:Code) (f:Fin) (S:St Pl):Option (Ex×St Pl) :=
  exec X0 (callK X0 F0 R TL n) L code S (fun e S=>some (e,f e S))
theorem goes_ofG {R:Eng.Told Pl} (hR:TOk R) {TL:LoopsT Pl} (hTL:LOk TL) {L:LK Pl} {n:Nat} {code:Code} {f:Fin} (hf:Fok f) {S S':St Pl} {e:Ex} (hL:∀b∈loopsOf code,LoopOk X0 L b)
    (h:evG R TL L n code f S=some (e,S')):GoesTo code S e S':=by
  obtain ⟨e1,S1,h1,h2⟩:=body_goes xok fok hR hTL hL h
  simp only [Option.some.injEq,Prod.mk.injEq] at h1
  obtain ⟨rfl,rfl⟩:=h1
  exact h2.weak (hf _ _)
def pSgI:List (D Pl)→Option (Bool×D Pl)
  | [.pl ⟨.toks,l⟩ .any,.int .i64 a,.str s]=>some (decide (0≤a),.bool (sgI l a s))
  | _=>none
theorem pSgI_ok:∀ds b d,pSgI ds=some (b,d)→b=true→Snd 68 ds d:=by
  intro ds b d h hb
  unfold pSgI at h
  split at h
  · simp only [Option.some.injEq,Prod.mk.injEq] at h;obtain ⟨rfl,rfl⟩:=h;exact sgI_sound (of_decide_eq_true hb) _
  · simp at h
def pDgM:List (D Pl)→Option (Bool×D Pl)
  | [.int .i64 c,.pl ⟨.toks,l⟩ .any,.int .i64 a]=>some (decide (0≤a)&&Nat.blt 0 l.length,.agg (cDg c (dgM c l a).p))
  | _=>none
theorem pDgM_ok:∀ds b d,pDgM ds=some (b,d)→b=true→Snd 29 ds d:=by
  intro ds b d h hb
  unfold pDgM at h
  split at h
  · simp only [Option.some.injEq,Prod.mk.injEq] at h
    obtain ⟨rfl,rfl⟩:=h
    simp only [Bool.and_eq_true,Nat.blt_eq] at hb
    exact dgM_sound (of_decide_eq_true hb.1) hb.2 _
  · simp at h
def encAR (r:AR):D Pl:=.tup [.agg (cExpr r.e),dI r.a,.agg (cDg r.d.c r.d.p)]
def pAtI (A:Ats):List (D Pl)→Option (Bool×D Pl)
  | [.pl ⟨.toks,l⟩ .any,.int .i64 a]=>some (okP (A l a),encAR (prP (A l a)))
  | _=>none
def SndA (A:Ats):Prop:=∀l a r,A l a=some r→Snd 69 [.pl (pToks l) .any,dI a] (encAR r)
theorem pAtI_ok {A:Ats} (hA:SndA A):∀ds b d,pAtI A ds=some (b,d)→b=true→Snd 69 ds d:=by
  intro ds b d h hb
  unfold pAtI at h
  split at h
  · simp only [Option.some.injEq,Prod.mk.injEq] at h
    obtain ⟨rfl,rfl⟩:=h
    exact hA _ _ _ (okP_some hb)
  · simp at h
abbrev Its:=List TokR→Int→Option PI
def encPI (r:PI):D Pl:=.tup [.pl (pItems r.l) .any,dI r.a,.agg (cDg r.d.c r.d.p)]
def pItI (Q:Its):List (D Pl)→Option (Bool×D Pl)
  | [.pl ⟨.toks,l⟩ .any,.int .i64 a]=>some (okP (Q l a),encPI (prP (Q l a)))
  | _=>none
def SndI (Q:Its):Prop:=∀l a r,Q l a=some r→Snd 28 [.pl (pToks l) .any,dI a] (encPI r)
theorem pItI_ok {Q:Its} (hQ:SndI Q):∀ds b d,pItI Q ds=some (b,d)→b=true→Snd 28 ds d:=by
  intro ds b d h hb
  unfold pItI at h
  split at h
  · simp only [Option.some.injEq,Prod.mk.injEq] at h
    obtain ⟨rfl,rfl⟩:=h
    exact hQ _ _ _ (okP_some hb)
  · simp at h
def tIt (A:Ats) (Q:Its):Eng.Told Pl:=tell 68 pSgI (tell 29 pDgM (tell 69 (pAtI A) (tell 28 (pItI Q) tell0)))
theorem tIt_ok {A:Ats} {Q:Its} (hA:SndA A) (hQ:SndI Q):TOk (tIt A Q):=tell_ok pSgI_ok (tell_ok pDgM_ok (tell_ok (pAtI_ok hA) (tell_ok (pItI_ok hQ) (tell0_ok _))))
def cIt (b:Bool) (s:Str) (lb:D Pl) (p:PosR):List (D Pl):=.bool b::.str s::lb::zE++[.nilS,dI p.at',dI p.line,dI p.col]
def dz:List (D Pl):=cDg 0 p00
def sIt (l:List TokR) (out:List ItemR) (a:Int):St Pl:=mkS 199 [(0,.pl (pToks l) .any),(1,dI a),(6,.ptr 6 0),(7,.arr 96)] [(96,.arr false (pItems out)),(6,.box false dz)]
def sItR (l:List TokR) (a:Int) (d:DgR):St Pl:=mkS 199 [(0,.pl (pToks l) .any),(4,.nilS),(5,dI a),(6,.ptr 6 0)] [(6,.box false (cDg d.c d.p))]
def FIt:Fix Pl:={ keep:=[0,1,6,7],lose:=[8,10,12,17,155],ord:=[96,6] }
def FItR:Fix Pl:={ keep:=[0,4,5,6],lose:=[8,10,12,17,96,155],ord:=[6] }
noncomputable def fIt:Fin:=finT FIt [(7,96)] FItR
def sTw (l:List TokR) (out:List ItemR) (a:Int) (s:Str) (p:PosR) (i:Int):St Pl:=mkS 199 [(0,.pl (pToks l) .any),(1,dI a),(6,.ptr 6 0),(7,.arr 96),(8,.ptr 8 0),(9,dI i)] [(8,.box false (cIt false s .nilS p)),(96,.arr false (pItems out)),(6,.box false dz)]
def FTw:Fix Pl:={ keep:=[0,1,6,7,8,9],ord:=[8,96,6] }
noncomputable def fTw:Fin:=finT FTw [] FItR
def sLb (l:List TokR) (out:List ItemR) (a:Int) (s:Str) (p:PosR) (ls:List Str):St Pl:=mkS 199 [(0,.pl (pToks l) .any),(1,dI a),(6,.ptr 6 0),(7,.arr 96),(8,.ptr 8 0)] [(155,.arr false (pStrs ls)),(8,.box false (cIt true s (.arr 155) p)),(96,.arr false (pItems out)),(6,.box false dz)]
def FLb:Fix Pl:={ keep:=[0,1,6,7,8],ord:=[155,8,96,6] }
noncomputable def fLb:Fin:=finT FLb [] FItR
end Go.Proofs.YtobleaffkomcmaaGreatDoor
