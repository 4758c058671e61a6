/-
  THE DOCUMENT's DECLARATIONS: may an attribute stand in a block, and is it what it must be?
-/
import Derived.Test.YtobleaffkomcmaaGreatDoorItemsL
import Derived.Test.YtobleaffkomcmaaGreatDoorTabD
namespace Go.Proofs.YtobleaffkomcmaaGreatDoor
open Go.Eng
set_option maxRecDepth 100000
noncomputable def finE (Fn Fe Fr:Fix Pl):Fin:=fun e S=>match e with
  | .normal=>fixS X0.C Fn S
  | .ret=>fixS X0.C Fr S
  | _=>fixS X0.C Fe S
theorem finE_ok (Fn Fe Fr:Fix Pl):Fok (finE Fn Fe Fr):=fun e S=>by
  unfold finE
  split<;>exact Weak.fix xok _ _
theorem srch {R:Eng.Told Pl} (hR:TOk R) {L:LK Pl} {body:Code} (hb:∀b∈loopsOf body,LoopOk X0 L b) {f:Fin} (hf:Fok f) {k:Nat} {Sf:Int→St Pl} {n:Nat} (hn:n≤big) {p:Nat→Bool} {e1 e2:Ex} (h1:e1≠.normal) (h2:e2≠.normal) {S1:St Pl} {S2:Nat→St Pl}
    (step:∀i,i < n→evG R noTL L k body f (Sf i)=bif p i then some (.normal,Sf (w64 ((i:Int)+1))) else some (e2,S2 i))
    (last:evG R noTL L k body f (Sf n)=some (e1,S1)) :
    Goes X0 (.loop body) (Sf 0) (pickR (loopR n p e1 S1 e2 S2)).1 (pickR (loopR n p e1 S1 e2 S2)).2:=by
  refine loop_gen (Sf:=fun i:Nat=>Sf i) h1 h2 (fun i hi hp=>?_) (fun i hi hp=>?_) (goes_ofG hR (noTL_ok _ _) hf hb last)
  · refine goes_ofG hR (noTL_ok _ _) hf hb ((step i hi).trans ?_)
    rw [hp,show w64 ((i:Int)+1)=((i+1:Nat):Int) from wrap_nat (show i≤big by omega)]
    rfl
  · exact goes_ofG hR (noTL_ok _ _) hf hb ((step i hi).trans (by rw [hp];rfl))
theorem ff_le (p:Nat→Bool) (n:Nat):ff p n≤n:=by
  rcases ff_spec n p with ⟨h,_⟩ | ⟨h,_⟩<;>omega
def noF (p:Nat→Bool) (n:Nat):Bool:=Nat.beq (ff p n) n
theorem noF_all (p:Nat→Bool) (n:Nat):noF p n=(List.range n).all p:=by
  unfold noF
  rcases ff_spec n p with ⟨h1,h2⟩ | ⟨h1,h2,h3⟩
  · rw [h1,show Nat.beq n n=true from Nat.beq_refl n]
    exact (List.all_eq_true.2 fun i hi=>h2 i (List.mem_range.1 hi)).symm
  · have h4:Nat.beq (ff p n) n=false:=by
      cases hb:Nat.beq (ff p n) n with
      | false=>rfl
      | true=>have:=Nat.eq_of_beq_eq_true hb;omega
    rw [h4]
    symm
    rw [Bool.eq_false_iff]
    intro h
    rw [List.all_eq_true.1 h _ (List.mem_range.2 h1)] at h2
    cases h2
structure DwR where
  c:Int
  p:PosR
  w:Str
  deriving Inhabited
def dw0:DwR:=⟨0,p00,[]⟩
def cDw (d:DwR):List (D Pl):=[dI d.c,dI d.p.at',dI d.p.line,dI d.p.col,.str d.w]
def asI:D Pl→Option ItemR
  | .agg cs=>dItem cs
  | _=>none
theorem item_rdle {cs:List (D Pl)} {x:ItemR} (h:dItem cs=some x):RDle X0.C (.agg cs) (.agg (cItem x)):=RDle.agg (RDles.of2 (Ty.dec_enc (C:=X0.C) (fun _=>rfl) .items cs x h))
theorem asI_rdle {d:D Pl} {x:ItemR} (h:asI d=some x):RDle X0.C d (.agg (cItem x)):=by
  unfold asI at h
  split at h
  · exact item_rdle h
  · simp at h
theorem eDi (c:Int) (x:ItemR) (w:Str):ev tell0 noTL 1 33 [dI c,.agg (cItem x),.str w]=some (.agg (cDw ⟨c,x.p,w⟩)):=by kernel_rfl
def pDi:List (D Pl)→Option (Bool×D Pl)
  | [.int .i64 c,d,.str w]=>match asI d with
    | some x=>some (true,.agg (cDw ⟨c,x.p,w⟩))
    | none=>none
  | _=>none
theorem pDi_ok:∀ds b d,pDi ds=some (b,d)→b=true→Snd 33 ds d:=by
  intro ds b d h hb
  unfold pDi at h
  split at h
  · split at h
    · rename_i h1
      simp only [Option.some.injEq,Prod.mk.injEq] at h
      obtain ⟨_,rfl⟩:=h
      exact (snd_of (tell0_ok _) (noTL_ok _ _) (eDi _ _ _)).pre (.cons (RDle.refl _) (.cons (asI_rdle h1) (.cons (RDle.refl _) .nil)))
    · simp at h
  · simp at h
def hasS (l:List Str) (x:Str):Bool:=l.any fun y=>y==x
theorem all_range_succ (n:Nat) (p:Nat→Bool):(List.range (n+1)).all p=(p 0&&(List.range n).all fun i=>p (i+1)):=by
  rw [List.range_succ_eq_map,List.all_cons,List.all_map]
  rfl
theorem hasS_range (l:List Str) (x:Str):((List.range l.length).all fun i=>!(l.getD i []==x))=!(hasS l x):=by
  induction l with
  | nil=>rfl
  | cons y r ih =>
    rw [List.length_cons,all_range_succ]
    simp only [hasS,List.any_cons,Bool.not_or]
    rw [show (!List.any r fun y=>y==x)=!(hasS r x) from rfl,←ih]
    rfl
def pHasS (f:List Str→Str→D Pl):List (D Pl)→Option (Bool×D Pl)
  | [d,.str k]=>match asL .strs d with
    | some l=>some (true,f l k)
    | none=>none
  | _=>none
theorem pHasS_ok {g:FuncId} {f:List Str→Str→D Pl} (hf:∀l x,Snd g [.pl (pStrs l) .any,.str x] (f l x)):∀ds b d,pHasS f ds=some (b,d)→b=true→Snd g ds d:=by
  intro ds b d h hb
  unfold pHasS at h
  split at h
  · split at h
    · rename_i h1
      simp only [Option.some.injEq,Prod.mk.injEq] at h
      obtain ⟨_,rfl⟩:=h
      exact (hf _ _).pre (.cons (asL_rdle h1) (.cons (RDle.refl _) .nil))
    · simp at h
  · simp at h
def sHs (l:List Str) (x:Str) (i:Int):St Pl:=mkS 18 [(0,.pl (pStrs l) .any),(1,.str x),(5,dI i)] []
def rHs:St Pl:=mkS 18 [] []
def rHst:St Pl:=mkS 18 [(4,.bool true)] []
noncomputable def fHs:Fin:=finE { keep:=[0,1,5] } { keep:=[] } { keep:=[4] }
theorem bHs (l:List Str) (x:Str) (i:Nat):evG tell0 noTL noL 1 (loopAt 32 0) fHs (sHs l x i) =
    lt_ i l.length (ix_ i l.length (bif l.getD i []==x then some (.ret,rHst) else some (.normal,sHs l x (w64 ((i:Int)+1))))) (some (.exit 0,rHs)):=by kernel_rfl
theorem idsHs:(loopsAt 32).length=1∧firstId (loopAt 32 0)=2∧loopsOf (loopAt 32 0)=[]:=⟨by kernel_rfl,by kernel_rfl,by kernel_rfl⟩
def LSHs (S:St Pl):Option (Bool×LR Pl):=match seenS 18 [0,1,5] S with
  | some ([.pl ⟨.strs,l⟩ .any,.str x,.int .i64 (.ofNat 0)],[])=>some (Nat.ble l.length big,loopR l.length (fun i=>!(l.getD i []==x)) (.exit 0) rHs .ret fun _=>rHst)
  | _=>none
theorem LSHs_ok:SOk X0 (loopAt 32 0) LSHs:=by
  intro S c r h hc
  unfold LSHs at h
  split at h
  · rename_i l x hs
    simp only [Option.some.injEq,Prod.mk.injEq] at h
    obtain ⟨rfl,rfl⟩:=h
    simp only [Nat.ble_eq] at hc
    refine Goes.pre (keepOf [0,1,5]) ?_
    rw [seenS_mask hs]
    refine srch (tell0_ok _) (noLoops idsHs.2.2) (finE_ok _ _ _) (k:=1) (Sf:=fun i=>sHs l x i) hc (by simp) (by simp) (fun i hi=>(bHs l x i).trans ?_) ((bHs l x l.length).trans (lt_f (by omega) _ _))
    rw [lt_t hi,ix_t hi]
    cases l.getD i []==x<;>rfl
  · simp at h
theorem eHs (l:List Str) (x:Str):evF tell0 noTL (atL 2 LSHs noL) 1 Tryz.f32 [.pl (pStrs l) .any,.str x] =
    ck_ (Nat.ble l.length big) (bif noF (fun i=>!(l.getD i []==x)) l.length then some (.bool false) else some (.bool true)):=by kernel_rfl
theorem has_sound (l:List Str) (x:Str):Snd 32 [.pl (pStrs l) .any,.str x] (.bool (hasS l x)):=by
  refine SoundAt.rooms fun hroom=>snd_fn (n:=1) (tell0_ok _) (noTL_ok _ _) (f:=32) (fn:=Tryz.f32) (by kernel_rfl) (loops_of (f:=32) (fn:=Tryz.f32) (by kernel_rfl) (loops_1 idsHs.1 (atL_ok (fun _=>LSHs_ok) fun h=>absurd idsHs.2.1 h))) ((eHs l x).trans ?_)
  have hk:l.length * 16≤big:=hroom (.pl (pStrs l) .any) (by simp)
  rw [ck_t (ble_t (by omega)),noF_all,hasS_range]
  cases hasS l x<;>rfl
def isA (x:ItemR) (s:Str) (i:Nat):Bool:=bif !(x.items.getD i default).block then (x.items.getD i default).name==s else false
def atP (x:ItemR) (s:Str):Nat:=ff (fun i=>!(isA x s i)) x.items.length
def hasAt (x:ItemR) (s:Str):Bool:=!(Nat.beq (atP x s) x.items.length)
def getAt (x:ItemR) (s:Str):ExprR:=bif hasAt x s then (x.items.getD (atP x s) default).e else e00
def sAt (x:ItemR) (s:Str) (i:Int):St Pl:=mkS 38 [(1,.str s),(2,.ptr 2 0),(4,.ptr 4 0),(5,.bool false),(6,dI i)] [(4,.box false zE),(2,.box false (cItem x))]
def rAt (x:ItemR) (s:Str):St Pl:=mkS 38 [(4,.ptr 4 0)] [(4,.box false zE)]
def rAtt (x:ItemR) (i:Nat):St Pl:=mkS 38 [(4,.ptr 4 0),(5,.bool true)] [(4,.box false (cExpr (x.items.getD i default).e))]
noncomputable def fAt:Fin:=finE { keep:=[1,2,4,5,6],ord:=[4,2] } { keep:=[4],lose:=[2] } { keep:=[4,5],lose:=[2] }
theorem bAt (x:ItemR) (s:Str) (i:Nat):evG tell0 noTL noL 1 (loopAt 36 0) fAt (sAt x s i) =
    lt_ i x.items.length (ix_ i x.items.length (ixo_ i x.items.length ((!((x.items.getD i default).block))==true) (bif isA x s i then ix_ i x.items.length (some (.ret,rAtt x i)) else some (.normal,sAt x s (w64 ((i:Int)+1)))))) (some (.exit 0,rAt x s)):=by kernel_rfl
theorem idsAt:(loopsAt 36).length=1∧firstId (loopAt 36 0)=2∧loopsOf (loopAt 36 0)=[]:=⟨by kernel_rfl,by kernel_rfl,by kernel_rfl⟩
def xItem:List (D Pl)→Option ItemR
  | [.bool bl,.str name,.pl ⟨.strs,lb⟩ .any,.int .i64 op,.str s,.str s2,.int .i64 k,.int .i64 i,.str vs,.pl ⟨.vals,l⟩ .any,.pl ⟨.strs,ks⟩ .any,.int .i64 tk,.int .i64 tof,.bool sec,.pl ⟨.exprs,x⟩ .any,.int .i64 a,.int .i64 b,.int .i64 c,.pl ⟨.items,y⟩ .any,.int .i64 a',.int .i64 b',.int .i64 c'] =>
    some ⟨bl,name,lb,⟨op,s,s2,⟨k,i,vs,l,ks,tk,tof,sec⟩,x,⟨a,b,c⟩⟩,y,⟨a',b',c'⟩⟩
  | _=>none
theorem xItem_eq {cs:List (D Pl)} {x:ItemR} (h:xItem cs=some x):cs=cItem x:=by
  unfold xItem at h
  split at h
  · simp only [Option.some.injEq] at h;subst h;rfl
  · simp at h
def LSAt (S:St Pl):Option (Bool×LR Pl):=match seenS 38 [1,2,4,5,6] S with
  | some ([.str s,.ptr 2 0,.ptr 4 0,.bool false,.int .i64 (.ofNat 0)],[(4,.box false [.int .i64 (.ofNat 0),.str [],.str [],.int .i64 (.ofNat 0),.int .i64 (.ofNat 0),.str [],.nilS,.nilS,.int .i64 (.ofNat 0),.int .i64 (.ofNat 0),.bool false,.nilS,.int .i64 (.ofNat 0),.int .i64 (.ofNat 0),.int .i64 (.ofNat 0)]),(2,.box false cx)]) =>
    (match xItem cx with
    | some x=>some (Nat.ble x.items.length big,loopR x.items.length (fun i=>!(isA x s i)) (.exit 0) (rAt x s) .ret fun i=>rAtt x i)
    | none=>none)
  | _=>none
theorem LSAt_ok:SOk X0 (loopAt 36 0) LSAt:=by
  intro S c r h hc
  unfold LSAt at h
  split at h
  · rename_i s cx hs
    split at h
    · rename_i x hx
      simp only [Option.some.injEq,Prod.mk.injEq] at h
      obtain ⟨rfl,rfl⟩:=h
      simp only [Nat.ble_eq] at hc
      rw [xItem_eq hx] at hs
      refine Goes.pre (keepOf [1,2,4,5,6]) ?_
      rw [seenS_mask hs]
      refine srch (tell0_ok _) (noLoops idsAt.2.2) (finE_ok _ _ _) (k:=1) (Sf:=fun i=>sAt x s i) hc (by simp) (by simp) (fun i hi=>(bAt x s i).trans ?_) ((bAt x s x.items.length).trans (lt_f (by omega) _ _))
      rw [lt_t hi,ix_t hi,ixo_t hi,ix_t hi]
      cases isA x s i<;>rfl
    · simp at h
  · simp at h
theorem eAt (x:ItemR) (s:Str):evF tell0 noTL (atL 2 LSAt noL) 1 Tryz.f36 [.agg (cItem x),.str s] =
    ck_ (Nat.ble x.items.length big) (bif noF (fun i=>!(isA x s i)) x.items.length then some (.tup [.agg zE,.bool false]) else some (.tup [.agg (cExpr (x.items.getD (ff (fun i=>!(isA x s i)) x.items.length) default).e),.bool true])):=by kernel_rfl
theorem attr_sound (x:ItemR) (s:Str):Snd 36 [.agg (cItem x),.str s] (.tup [.agg (cExpr (getAt x s)),.bool (hasAt x s)]):=by
  refine SoundAt.rooms fun hroom=>?_
  have go:=fun {d} (h:_=some d)=>snd_fn (n:=1) (tell0_ok _) (noTL_ok _ _) (f:=36) (fn:=Tryz.f36) (by kernel_rfl) (loops_of (f:=36) (fn:=Tryz.f36) (by kernel_rfl) (loops_1 idsAt.1 (atL_ok (fun _=>LSAt_ok) fun h=>absurd idsAt.2.1 h))) ((eAt x s).trans h)
  have hr:Room _ (.agg (cItem x)):=hroom _ (by simp)
  have hk:x.items.length * 288≤big:=hr (.pl (pItems x.items) .any) (by simp [cItem])
  rw [ck_t (ble_t (by omega))] at go
  unfold getAt hasAt
  change ∀{d},(bif Nat.beq (atP x s) x.items.length then _ else some (D.tup [.agg (cExpr (x.items.getD (atP x s) default).e),.bool true]))=some d→_ at go
  cases hb:Nat.beq (atP x s) x.items.length with
  | true =>
    rw [hb] at go
    exact (go rfl).post (RDle.tup (.cons zE_rdle (RDles.refl _)))
  | false=>rw [hb] at go;exact go rfl
def pItS (f:ItemR→Str→Bool×D Pl):List (D Pl)→Option (Bool×D Pl)
  | [d,.str s]=>match asI d with
    | some x=>some (f x s)
    | none=>none
  | _=>none
theorem pItS_ok {g:FuncId} {f:ItemR→Str→Bool×D Pl} (h:∀x s,(f x s).1=true→Snd g [.agg (cItem x),.str s] (f x s).2):∀ds b d,pItS f ds=some (b,d)→b=true→Snd g ds d:=by
  intro ds b d hp hb
  unfold pItS at hp
  split at hp
  · split at hp
    · rename_i h1
      simp only [Option.some.injEq] at hp
      have h2:=h _ _ (by rw [hp];exact hb)
      rw [hp] at h2
      exact h2.pre (.cons (asI_rdle h1) (.cons (RDle.refl _) .nil))
    · simp at hp
  · simp at hp
def atT (x:ItemR) (s:Str):Bool×D Pl:=(true,.tup [.agg (cExpr (getAt x s)),.bool (hasAt x s)])
theorem atT_ok:∀ds b d,pItS atT ds=some (b,d)→b=true→Snd 36 ds d:=pItS_ok fun x s _=>attr_sound x s
end Go.Proofs.YtobleaffkomcmaaGreatDoor
namespace Go.Proofs.YtobleaffkomcmaaGreatDoor
open Go.Eng
set_option maxRecDepth 100000
theorem srchN {R:Eng.Told Pl} (hR:TOk R) {L:LK Pl} {body:Code} (hb:∀b∈loopsOf body,LoopOk X0 L b) {f:Fin} (hf:Fok f) {k:Nat} {Sf:Nat→St Pl} {n:Nat} {p:Nat→Bool} {e1 e2:Ex} (h1:e1≠.normal) (h2:e2≠.normal) {S1:St Pl} {S2:Nat→St Pl}
    (step:∀i,i < n→evG R noTL L k body f (Sf i)=bif p i then some (.normal,Sf (i+1)) else some (e2,S2 i))
    (last:evG R noTL L k body f (Sf n)=some (e1,S1)) :
    Goes X0 (.loop body) (Sf 0) (pickR (loopR n p e1 S1 e2 S2)).1 (pickR (loopR n p e1 S1 e2 S2)).2:=by
  refine loop_gen (Sf:=Sf) h1 h2 (fun i hi hp=>?_) (fun i hi hp=>?_) (goes_ofG hR (noTL_ok _ _) hf hb last)
  · exact goes_ofG hR (noTL_ok _ _) hf hb ((step i hi).trans (by rw [hp];rfl))
  · exact goes_ofG hR (noTL_ok _ _) hf hb ((step i hi).trans (by rw [hp];rfl))
def tSp:Eng.Told Pl:=tell 70 (T11.pSt fun t=>(true,.pl (pAttrs (T11.attrsV t)) .any)) (tell 71 (pS fun s=>.bool (T11.nameV s)) tell0)
theorem tSp_ok:TOk tSp:=tell_ok (T11.pSt_ok fun t _=>T11.Attrs_sound t) (tell_ok (pS_ok T11.name_sound) (tell0_ok _))
def sSp (s:Str) (i:Int):St Pl:=mkS 38 [(0,.str s),(5,dI i)] []
def rSp (t n:Str) (b:Bool):St Pl:=mkS 38 [(2,.str t),(3,.str n),(4,.bool b)] []
noncomputable def fSp:Fin:=finE { keep:=[0,5] } { keep:=[] } { keep:=[2,3,4] }
def spT (s:Str) (i:Nat):Str:=slI s 0 i
def spN (s:Str) (i:Nat):Str:=slI s (w64 ((i:Int)+1)) s.length
def spO (s:Str) (i:Nat):Bool:=bif decide (((T11.attrsV (spT s i)).length:Int) > 0) then T11.nameV (spN s i) else false
def spK (s:Str) (i:Nat) (b:Bool):Option (Ex×St Pl):=slK s 0 i fun _=>slK s (w64 ((i:Int)+1)) s.length fun _=>some (.ret,rSp (spT s i) (spN s i) b)
theorem bSp (s:Str) (i:Nat):evG tSp noTL noL 1 (loopAt 40 0) fSp (sSp s i) =
    lt_ i s.length (ix_ i s.length (bif byt s i==46 then (slK s 0 i fun _=>ck_ (((decide (0≤w64 ((i:Int)+1))&&decide (w64 ((i:Int)+1)≤(s.length:Int)))&&decide ((s.length:Int)≤(s.length:Int)))||!(decide (((T11.attrsV (spT s i)).length:Int) > 0)==true))
      (bif decide (((T11.attrsV (spT s i)).length:Int) > 0)==true then spK s i (T11.nameV (spN s i)) else spK s i false)) else some (.normal,sSp s (w64 ((i:Int)+1))))) (some (.exit 0,mkS 38 [] [])):=by kernel_rfl
theorem idsSp:(loopsAt 40).length=1∧firstId (loopAt 40 0)=2∧loopsOf (loopAt 40 0)=[]:=⟨by kernel_rfl,by kernel_rfl,by kernel_rfl⟩
def noDot (s:Str) (i:Nat):Bool:=!(byt s i==46)
def LSSp (S:St Pl):Option (Bool×LR Pl):=match seenS 38 [0,5] S with
  | some ([.str s,.int .i64 (.ofNat 0)],[])=>some (Nat.ble s.length big,loopR s.length (noDot s) (.exit 0) (mkS 38 [] []) .ret fun i=>rSp (spT s i) (spN s i) (spO s i))
  | _=>none
theorem LSSp_ok:SOk X0 (loopAt 40 0) LSSp:=by
  intro S c r h hc
  unfold LSSp at h
  split at h
  · rename_i s hs
    simp only [Option.some.injEq,Prod.mk.injEq] at h
    obtain ⟨rfl,rfl⟩:=h
    simp only [Nat.ble_eq] at hc
    have hbig:big=140737488355328:=rfl
    refine Goes.pre (keepOf [0,5]) ?_
    rw [seenS_mask hs]
    refine srch tSp_ok (noLoops idsSp.2.2) (finE_ok _ _ _) (k:=1) (Sf:=fun i=>sSp s i) hc (by simp) (by simp) (fun i hi=>(bSp s i).trans ?_) ((bSp s s.length).trans (lt_f (by omega) _ _))
    have hw:w64 ((i:Int)+1)=((i+1:Nat):Int):=wrap_nat (by omega)
    rw [lt_t hi,ix_t hi]
    have e1:∀K:Str→Option (Ex×St Pl),slK s 0 i K=K (slI s 0 i):=fun K=>by
      unfold slK;rw [ck_t (by rw [decide_eq_true (show (0:Int)≤(i:Int) by omega),decide_eq_true (show (i:Int)≤(s.length:Int) by omega)];rfl)]
    have e2:∀K:Str→Option (Ex×St Pl),slK s (w64 ((i:Int)+1)) s.length K=K (slI s (w64 ((i:Int)+1)) s.length):=fun K=>by
      unfold slK;rw [hw,ck_t (by rw [decide_eq_true (show (0:Int)≤((i+1:Nat):Int) by omega),decide_eq_true (show ((i+1:Nat):Int)≤(s.length:Int) by omega),decide_eq_true (Int.le_refl _)];rfl)]
    unfold noDot spK
    rw [e1,ck_t (by rw [hw,decide_eq_true (show (0:Int)≤((i+1:Nat):Int) by omega),decide_eq_true (show ((i+1:Nat):Int)≤(s.length:Int) by omega),decide_eq_true (Int.le_refl _)];rfl)]
    simp only [e1,e2,spO]
    cases byt s i==46<;>cases decide (((T11.attrsV (spT s i)).length:Int) > 0)<;>rfl
  · simp at h
def dotP (s:Str):Nat:=ff (noDot s) s.length
def splitM (s:Str):Str×Str×Bool:=bif noF (noDot s) s.length then ([],[],false) else (spT s (dotP s),spN s (dotP s),spO s (dotP s))
theorem eSp (s:Str):evF tSp noTL (atL 2 LSSp noL) 1 Tryz.f40 [.str s] =
    ck_ (Nat.ble s.length big) (bif noF (noDot s) s.length then some (.tup [.str [],.str [],.bool false]) else some (.tup [.str (spT s (dotP s)),.str (spN s (dotP s)),.bool (spO s (dotP s))])):=by kernel_rfl
theorem split_sound (s:Str):Snd 40 [.str s] (.tup [.str (splitM s).1,.str (splitM s).2.1,.bool (splitM s).2.2]):=by
  refine SoundAt.rooms fun hroom=>snd_fn (n:=1) tSp_ok (noTL_ok _ _) (f:=40) (fn:=Tryz.f40) (by kernel_rfl) (loops_of (f:=40) (fn:=Tryz.f40) (by kernel_rfl) (loops_1 idsSp.1 (atL_ok (fun _=>LSSp_ok) fun h=>absurd idsSp.2.1 h))) ((eSp s).trans ?_)
  have hk:s.length≤big:=hroom (.str s) (by simp)
  rw [ck_t (ble_t hk)]
  unfold splitM
  cases noF (noDot s) s.length<;>rfl
def badL (x:ExprR):Bool:=bif x.op != 1 then true else x.v.kind != 3
def litT (e:ExprR):List Str:=e.l.map fun x=>x.v.s
def litB (e:ExprR):Bool:=bif e.op != 22 then false else noF (fun i=>!(badL (e.l.getD i default))) e.l.length
def sLi (e:ExprR) (ls:List Str) (i:Int):St Pl:=mkS 44 [(1,.ptr 1 0),(4,.arr 42),(5,dI i)] [(42,.arr false (pStrs ls)),(1,.box false (cExpr e))]
noncomputable def fLi:Fin:=finE { keep:=[1,4,5],ord:=[42,1] } { keep:=[4],lose:=[1] } { keep:=[2,3],lose:=[1,42] }
def rLi (ls:List Str):St Pl:=mkS 44 [(4,.arr 42)] [(42,.arr false (pStrs ls))]
def rLif:St Pl:=mkS 44 [(2,.nilS),(3,.bool false)] []
theorem bLi (e:ExprR) (ls:List Str) (i:Nat):evG tell0 noTL noL 1 (loopAt 75 0) fLi (sLi e ls i) =
   lt_ i e.l.length (ix_ i e.l.length (ixo_ i e.l.length (((e.l.getD i default).op != 1)==false) (bif badL (e.l.getD i default) then some (.ret,rLif) else ix_ i e.l.length (apK 16 ls (e.l.getD i default).v.s fun o=>some (.normal,sLi e o (w64 ((i:Int)+1))))))) (some (.exit 0,rLi ls)):=by kernel_rfl
theorem idsLi:(loopsAt 75).length=1∧firstId (loopAt 75 0)=5∧loopsOf (loopAt 75 0)=[]:=⟨by kernel_rfl,by kernel_rfl,by kernel_rfl⟩
def sLi0 (e:ExprR):St Pl:=mkS 44 [(1,.ptr 1 0),(4,.nilS),(5,dI 0)] [(1,.box false (cExpr e))]
theorem weakLi_eq (e:ExprR):nilsS X0.C [(.slot 4,42,pStrs [])] (sLi0 e)=sLi e [] 0:=by kernel_rfl
theorem weakLi (e:ExprR):Weak X0 (sLi0 e) (sLi e [] 0):=weakLi_eq e ▸ Weak.nils xok [(.slot 4,42,pStrs [])] (sLi0 e)
def LSLi (S:St Pl):Option (Bool×LR Pl):=match seenS 44 [1,4,5] S with
  | some ([.ptr 1 0,.nilS,.int .i64 (.ofNat 0)],[(1,.box false ce)])=>(match xExpr ce with
    | some e=>some (Nat.ble (e.l.length * 16) big,loopR e.l.length (fun i=>!(badL (e.l.getD i default))) (.exit 0) (rLi (litT e)) .ret fun _=>rLif)
    | none=>none)
  | _=>none
theorem litT_take {e:ExprR} {i:Nat} (h:i < e.l.length):(e.l.take (i+1)).map (fun x=>x.v.s)=(e.l.take i).map (fun x=>x.v.s)++[(e.l.getD i default).v.s]:=by
  rw [List.take_add_one,List.getElem?_eq_getElem h,Option.toList_some,List.map_append,List.getD_eq_getElem?_getD,List.getElem?_eq_getElem h]
  rfl
theorem LSLi_ok:SOk X0 (loopAt 75 0) LSLi:=by
  intro S c r h hc
  unfold LSLi at h
  split at h
  · rename_i ce hs
    split at h
    · rename_i e he
      simp only [Option.some.injEq,Prod.mk.injEq] at h
      obtain ⟨rfl,rfl⟩:=h
      simp only [Nat.ble_eq] at hc
      rw [xExpr_eq he] at hs
      refine Goes.pre (keepOf [1,4,5]) ?_
      rw [seenS_mask hs]
      refine Goes.weakPre (weakLi e) ?_
      refine srchN (tell0_ok _) (noLoops idsLi.2.2) (finE_ok _ _ _) (k:=1) (Sf:=fun i=>sLi e ((e.l.take i).map fun x=>x.v.s) i) (by simp) (by simp) (fun i hi=>(bLi e _ i).trans ?_) ?_
      · rw [lt_t hi,ix_t hi,ixo_t hi,ix_t hi,apK_t (by rw [List.length_map,List.length_take];omega),litT_take hi,show w64 ((i:Int)+1)=((i+1:Nat):Int) from wrap_nat (show i≤big by omega)]
        cases badL (e.l.getD i default)<;>rfl
      · rw [List.take_length]
        exact (bLi e (litT e) e.l.length).trans (lt_f (by omega) _ _)
    · simp at h
  · simp at h
theorem eLi (e:ExprR):evF tell0 noTL (atL 5 LSLi noL) 1 Tryz.f75 [.agg (cExpr e)] =
    bif e.op != 22 then some (.tup [.nilS,.bool false]) else ck_ (Nat.ble (e.l.length * 16) big) (bif noF (fun i=>!(badL (e.l.getD i default))) e.l.length then some (.tup [.pl (pStrs (litT e)) .any,.bool true]) else some (.tup [.nilS,.bool false])):=by kernel_rfl
def litM (e:ExprR):List Str:=bif litB e then litT e else []
theorem lit_sound (e:ExprR):Snd 75 [.agg (cExpr e)] (.tup [.pl (pStrs (litM e)) .any,.bool (litB e)]):=by
  refine SoundAt.rooms fun hroom=>?_
  have go:=fun {d} (h:_=some d)=>snd_fn (n:=1) (tell0_ok _) (noTL_ok _ _) (f:=75) (fn:=Tryz.f75) (by kernel_rfl) (loops_of (f:=75) (fn:=Tryz.f75) (by kernel_rfl) (loops_1 idsLi.1 (atL_ok (fun _=>LSLi_ok) fun h=>absurd idsLi.2.1 h))) ((eLi e).trans h)
  have hr:Room _ (.agg (cExpr e)):=hroom _ (by simp)
  have hk:e.l.length * 192≤big:=hr (.pl (pExprs e.l) .any) (by simp [cExpr])
  have nl:RDle X0.C (.tup [.nilS,.bool false]) (.tup [.pl (pStrs []) .any,.bool false]):=RDle.tup (.cons (RDle.of (.nil _ rfl)) (RDles.refl _))
  rw [ck_t (ble_t (by omega))] at go
  unfold litM litB
  cases h1:e.op != 22 with
  | true=>rw [h1] at go;exact (go rfl).post nl
  | false =>
    rw [h1] at go
    cases h2:noF (fun i=>!(badL (e.l.getD i default))) e.l.length with
    | false=>rw [h2] at go;exact (go rfl).post nl
    | true=>rw [h2] at go;exact go rfl
def cLt (p:PosR):List (D Pl):=[dI 1,.str [],.str [],dI 3,dI 0,.str [],.nilS,.nilS,dI 0,dI 0,.bool false,.nilS,dI p.at',dI p.line,dI p.col]
def condD (x:ItemR) (nm:Str):Option (D Pl):=bif hasAt x [115,97,121] then some (.agg (.str nm::(cExpr (getAt x [105,102])++cExpr (getAt x [115,97,121])))) else some (.agg (.str nm::(cExpr (getAt x [105,102])++cLt x.p)))
theorem eCo (x:ItemR):evF (tell 36 (pItS atT) tell0) noTL noL 1 Tryz.f39 [.agg (cItem x)] =
   bif decide ((x.labels.length:Int) > 0) then ix_ 0 x.labels.length (condD x (x.labels.getD 0 [])) else condD x []:=by kernel_rfl
def condC (x:ItemR):CondR:=⟨bif decide ((x.labels.length:Int) > 0) then x.labels.getD 0 [] else [],getAt x [105,102],bif hasAt x [115,97,121] then getAt x [115,97,121] else litE 3 0 [] x.p⟩
theorem RDles.app {a b c d:List (D Pl)} (h:RDles X0.C a b) (k:RDles X0.C c d):RDles X0.C (a++c) (b++d):=by
  induction h with
  | nil=>exact k
  | cons h _ ih=>exact .cons h ih
theorem cLt_rdles (p:PosR):RDles X0.C (cLt p) (cExpr (litE 3 0 [] p)):=.cons (RDle.refl _) (.cons (RDle.refl _) (.cons (RDle.refl _) (.cons (RDle.refl _) (.cons (RDle.refl _) (.cons (RDle.refl _) (.cons (RDle.of (.nil _ rfl)) (.cons (RDle.of (.nil _ rfl)) (.cons (RDle.refl _) (.cons (RDle.refl _) (.cons (RDle.refl _) (.cons (RDle.of (.nil _ rfl)) (RDles.refl _))))))))))))
theorem cond_of (x:ItemR) (nm:Str):∃d,condD x nm=some d∧RDle X0.C d (.agg (cCond ⟨nm,getAt x [105,102],bif hasAt x [115,97,121] then getAt x [115,97,121] else litE 3 0 [] x.p⟩)):=by
  unfold condD
  cases hasAt x [115,97,121] with
  | true=>exact ⟨_,rfl,RDle.refl _⟩
  | false=>exact ⟨_,rfl,RDle.agg (.cons (RDle.refl _) (RDles.app (RDles.refl (cExpr (getAt x [105,102]))) (cLt_rdles x.p)))⟩
theorem cond12_sound (x:ItemR):Snd 39 [.agg (cItem x)] (.agg (cCond (condC x))):=by
  have go:=fun {d} (h:_=some d)=>snd_fn (n:=1) (tell_ok atT_ok (tell0_ok _)) (noTL_ok _ _) (f:=39) (fn:=Tryz.f39) (by kernel_rfl) (loops_of (f:=39) (fn:=Tryz.f39) (by kernel_rfl) (L:=noL) (fun i _=>noL_ok _ _)) ((eCo x).trans h)
  unfold condC
  cases h1:decide ((x.labels.length:Int) > 0) with
  | false =>
    obtain ⟨d,e,hd⟩:=cond_of x []
    rw [h1,cond_false,e] at go
    exact (go rfl).post hd
  | true =>
    have:=of_decide_eq_true h1
    obtain ⟨d,e,hd⟩:=cond_of x (x.labels.getD 0 [])
    rw [h1,cond_true,ix_t (by omega),e] at go
    exact (go rfl).post hd
structure CfgR where
  inputs:List InputR
  locals:List FieldR
  ress:List ResR
  outs:List FieldR
  checks:List CondR
  deriving Inhabited
def cCfg (c:CfgR):List (D Pl):=[.pl (pInputs c.inputs) .any,.pl (pFields c.locals) .any,.pl (pRess c.ress) .any,.pl (pFields c.outs) .any,.pl (pConds c.checks) .any]
def isRe (c:CfgR) (t n:Str) (i:Nat):Bool:=bif (c.ress.getD i default).ty==t then (c.ress.getD i default).name==n else false
def sFd (c:CfgR) (t n:Str) (i:Int):St Pl:=mkS 34 [(1,.str t),(2,.str n),(3,.ptr 3 0),(7,dI i)] [(3,.box false (cCfg c))]
noncomputable def fFd:Fin:=finE { keep:=[1,2,3,7] } { keep:=[],lose:=[3] } { keep:=[6],lose:=[3] }
theorem bFd (c:CfgR) (t n:Str) (i:Nat):evG tell0 noTL noL 1 (loopAt 9 0) fFd (sFd c t n i) =
   lt_ i c.ress.length (ix_ i c.ress.length (ixo_ i c.ress.length (((c.ress.getD i default).ty==t)==true) (bif isRe c t n i then some (.ret,mkS 34 [(6,dI i)] []) else some (.normal,sFd c t n (w64 ((i:Int)+1)))))) (some (.exit 0,mkS 34 [] [])):=by kernel_rfl
theorem idsFd:(loopsAt 9).length=1∧firstId (loopAt 9 0)=2∧loopsOf (loopAt 9 0)=[]:=⟨by kernel_rfl,by kernel_rfl,by kernel_rfl⟩
def LSFd (S:St Pl):Option (Bool×LR Pl):=match seenS 34 [1,2,3,7] S with
  | some ([.str t,.str n,.ptr 3 0,.int .i64 (.ofNat 0)],[(3,.box false [.pl ⟨.inputs,a⟩ .any,.pl ⟨.fields,b⟩ .any,.pl ⟨.ress,r⟩ .any,.pl ⟨.fields,d⟩ .any,.pl ⟨.conds,e⟩ .any])]) =>
    some (Nat.ble r.length big,loopR r.length (fun i=>!(isRe ⟨a,b,r,d,e⟩ t n i)) (.exit 0) (mkS 34 [] []) .ret fun i=>mkS 34 [(6,dI i)] [])
  | _=>none
theorem LSFd_ok:SOk X0 (loopAt 9 0) LSFd:=by
  intro S c r h hc
  unfold LSFd at h
  split at h
  · rename_i t n a b r d e hs
    simp only [Option.some.injEq,Prod.mk.injEq] at h
    obtain ⟨rfl,rfl⟩:=h
    simp only [Nat.ble_eq] at hc
    refine Goes.pre (keepOf [1,2,3,7]) ?_
    rw [seenS_mask hs]
    refine srch (tell0_ok _) (noLoops idsFd.2.2) (finE_ok _ _ _) (k:=1) (Sf:=fun i=>sFd ⟨a,b,r,d,e⟩ t n i) hc (by simp) (by simp) (fun i hi=>(bFd ⟨a,b,r,d,e⟩ t n i).trans ?_) ((bFd ⟨a,b,r,d,e⟩ t n r.length).trans (lt_f (by simp) _ _))
    rw [lt_t hi,ix_t hi,ixo_t hi]
    cases isRe ⟨a,b,r,d,e⟩ t n i<;>rfl
  · simp at h
def fdP (c:CfgR) (t n:Str):Nat:=ff (fun i=>!(isRe c t n i)) c.ress.length
def fdM (c:CfgR) (t n:Str):Int:=bif noF (fun i=>!(isRe c t n i)) c.ress.length then -1 else fdP c t n
theorem eFd (c:CfgR) (t n:Str):evF tell0 noTL (atL 2 LSFd noL) 1 Tryz.f9 [.agg (cCfg c),.str t,.str n] =
    ck_ (Nat.ble c.ress.length big) (bif noF (fun i=>!(isRe c t n i)) c.ress.length then some (dI (-1)) else some (dI (fdP c t n))):=by kernel_rfl
theorem fd_sound (c:CfgR) (t n:Str):Snd 9 [.agg (cCfg c),.str t,.str n] (dI (fdM c t n)):=by
  refine SoundAt.rooms fun hroom=>snd_fn (n:=1) (tell0_ok _) (noTL_ok _ _) (f:=9) (fn:=Tryz.f9) (by kernel_rfl) (loops_of (f:=9) (fn:=Tryz.f9) (by kernel_rfl) (loops_1 idsFd.1 (atL_ok (fun _=>LSFd_ok) fun h=>absurd idsFd.2.1 h))) ((eFd c t n).trans ?_)
  have hr:Room _ (.agg (cCfg c)):=hroom _ (by simp)
  have hk:=hr (.pl (pRess c.ress) .any) (by simp [cCfg])
  have hk2:c.ress.length≤big:=by
    have:c.ress.length * (X0.C.bys (pRess c.ress))≤big:=hk
    have h2:1≤X0.C.bys (pRess c.ress):=Nat.le_of_ble_eq_true rfl
    calc c.ress.length=c.ress.length * 1:=by omega
      _≤_:=Nat.mul_le_mul_left _ h2
      _≤big:=this
  rw [ck_t (ble_t hk2)]
  unfold fdM
  cases noF (fun i=>!(isRe c t n i)) c.ress.length<;>rfl
end Go.Proofs.YtobleaffkomcmaaGreatDoor
namespace Go.Proofs.YtobleaffkomcmaaGreatDoor
open Go.Eng
set_option maxRecDepth 100000
def n_variable:Str:=[118,97,114,105,97,98,108,101]
def n_output:Str:=[111,117,116,112,117,116]
def n_check:Str:=[99,104,101,99,107]
def n_resource:Str:=[114,101,115,111,117,114,99,101]
def n_locals:Str:=[108,111,99,97,108,115]
def tLa:Eng.Told Pl:=tell 33 pDi tSp
def rLa (d:DwR):St Pl:=mkS 122 [(4,.ptr 4 0)] [(4,.box false (cDw d))]
def sLa (x:ItemR) (l:List ItemR) (n i:Int):St Pl:=mkS 122 [(1,.pl (pItems l) .any),(2,.ptr 2 0),(4,.ptr 4 0),(5,dI n),(7,dI i)] [(4,.box false dz),(2,.box false (cItem x))]
noncomputable def fLa:Fin:=finE { keep:=[1,2,4,5,7],lose:=[8],ord:=[4,2] } { keep:=[4],lose:=[2,8] } { keep:=[4],lose:=[2,8] }
def ixn {β:Type} (l:List Str) (a:Int) (g:Bool) (x:Option β):Option β:=bif (decide (0≤a)&&decide (a < (l.length:Int)))||!g then x else none
def laA (x y:ItemR):Bool:=bif y.block then y.name==x.name else false
def laB (x y:ItemR):Bool:=bif laA x y then y.labels.getD 0 []==x.labels.getD 0 [] else false
def laC (x y:ItemR) (n:Int):Bool:=bif laB x y then y.labels.getD (w64 (n - 1)).toNat []==x.labels.getD (w64 (n - 1)).toNat [] else false
theorem tLa_ok:TOk tLa:=tell_ok pDi_ok tSp_ok
theorem bLa (x:ItemR) (l:List ItemR) (n:Int) (i:Nat):evG tLa noTL noL 1 (loopAt 34 1) fLa (sLa x l n i) =
  bif (bif decide ((i:Int) < (l.length:Int)) then decide (n > 0) else false) then ix_ i l.length (let y:=l.getD i default
    ixo_ 0 y.labels.length (laA x y==true) (ixo_ 0 x.labels.length (laA x y==true) (ixn y.labels (w64 (n - 1)) (laB x y==true) (ixn x.labels (w64 (n - 1)) (laB x y==true) (
    bif laC x y n then ixn x.labels (w64 (n - 1)) true (some (.ret,rLa ⟨10,x.p,x.labels.getD (w64 (n - 1)).toNat []⟩)) else some (.normal,sLa x l n (w64 ((i:Int)+1))))))))
  else some (.exit 3,rLa dw0):=by kernel_rfl
theorem idsLa:(loopsAt 34).length=2∧firstId (loopAt 34 0)=12∧firstId (loopAt 34 1)=20∧loopsOf (loopAt 34 1)=[]:=⟨by kernel_rfl,by kernel_rfl,by kernel_rfl,by kernel_rfl⟩
def okAh (x:ItemR) (l:List ItemR) (n:Nat):Bool:=l.all fun y=>!(laA x y)||Nat.beq y.labels.length n
def laD (x:ItemR) (n:Int):DwR:=⟨10,x.p,x.labels.getD (w64 (n - 1)).toNat []⟩
def LSLa (S:St Pl):Option (Bool×LR Pl):=match seenS 122 [1,2,4,5,7] S with
  | some ([.pl ⟨.items,l⟩ .any,.ptr 2 0,.ptr 4 0,.int .i64 (.ofNat (n+1)),.int .i64 (.ofNat 0)],[(4,.box false [.int .i64 (.ofNat 0),.int .i64 (.ofNat 0),.int .i64 (.ofNat 0),.int .i64 (.ofNat 0),.str []]),(2,.box false cx)]) =>
    (match xItem cx with
    | some x=>some ((Nat.ble l.length big&&okAh x l (n+1))&&(Nat.beq x.labels.length (n+1)&&Nat.ble n 3),loopR l.length (fun i=>!(laC x (l.getD i default) ((n+1:Nat):Int))) (.exit 3) (rLa dw0) .ret fun _=>rLa (laD x ((n+1:Nat):Int)))
    | none=>none)
  | some ([.pl ⟨.items,l⟩ .any,.ptr 2 0,.ptr 4 0,.int .i64 (.ofNat 0),.int .i64 (.ofNat 0)],[(4,.box false [.int .i64 (.ofNat 0),.int .i64 (.ofNat 0),.int .i64 (.ofNat 0),.int .i64 (.ofNat 0),.str []]),(2,.box false cx)]) =>
    (match xItem cx with
    | some _=>some (true,.leaf (.exit 3) (rLa dw0))
    | none=>none)
  | _=>none
theorem ixo0 {β:Type} {n:Nat} (g:Bool) (h:g=true→0 < n) (x:Option β):ixo_ 0 n g x=x:=by
  cases g with
  | true=>exact ixo_t (h rfl) _ _
  | false=>unfold ixo_;simp
theorem ixn_t {β:Type} {l:List Str} {a:Int} {g:Bool} (h:g=true→0≤a∧a < (l.length:Int)) (x:Option β):ixn l a g x=x:=by
  unfold ixn
  cases g with
  | false=>simp
  | true =>
    obtain ⟨h1,h2⟩:=h rfl
    rw [decide_eq_true h1,decide_eq_true h2];rfl
theorem LSLa_ok:SOk X0 (loopAt 34 1) LSLa:=by
  intro S c r h hc
  unfold LSLa at h
  split at h
  · rename_i l n cx hs
    split at h
    · rename_i x hx
      simp only [Option.some.injEq,Prod.mk.injEq] at h
      obtain ⟨rfl,rfl⟩:=h
      simp only [Bool.and_eq_true,Nat.ble_eq] at hc
      obtain ⟨⟨hl,hok⟩,hxl,hn⟩:=hc
      have hxl:=Nat.eq_of_beq_eq_true hxl
      have hbig:big=140737488355328:=rfl
      rw [xItem_eq hx] at hs
      refine Goes.pre (keepOf [1,2,4,5,7]) ?_
      rw [seenS_mask hs]
      have hw:w64 (((n+1:Nat):Int) - 1)=(n:Int):=(wrap_in _ (by omega)).trans (by omega)
      refine srch tLa_ok (noLoops idsLa.2.2.2) (finE_ok _ _ _) (k:=1) (Sf:=fun i=>sLa x l ((n+1:Nat):Int) i) hl (by simp) (by simp) (fun i hi=>(bLa x l _ i).trans ?_) ((bLa x l _ l.length).trans ?_)
      · have hy:laA x (l.getD i default)=true→(l.getD i default).labels.length=n+1:=fun ha=>by
          have:=List.all_eq_true.1 hok _ (getD_mem (d:=default) hi)
          rw [ha] at this
          exact Nat.eq_of_beq_eq_true (by simpa using this)
        have hB:laB x (l.getD i default)=true→laA x (l.getD i default)=true:=fun h=>by
          unfold laB at h
          cases ha:laA x (l.getD i default) with
          | true=>rfl
          | false=>rw [ha] at h;cases h
        rw [decide_eq_true (show (i:Int) < (l.length:Int) by omega),decide_eq_true (show ((n+1:Nat):Int) > 0 by omega)]
        simp only [cond_true]
        rw [ix_t hi,ixo0 _ (fun h=>by have:=hy (by simpa using h);omega),ixo0 _ (fun _=>by omega),ixn_t (fun h=>by have:=hy (hB (by simpa using h));rw [hw];omega),ixn_t (fun _=>by rw [hw];omega),ixn_t (fun _=>by rw [hw];omega)]
        unfold laD
        cases laC x (l.getD i default) ((n+1:Nat):Int)<;>rfl
      · rw [decide_eq_false (show ¬ (l.length:Int) < (l.length:Int) by omega)];rfl
    · simp at h
  · rename_i l cx hs
    split at h
    · rename_i x hx
      simp only [Option.some.injEq,Prod.mk.injEq] at h
      obtain ⟨rfl,rfl⟩:=h
      rw [xItem_eq hx] at hs
      refine Goes.pre (keepOf [1,2,4,5,7]) ?_
      rw [seenS_mask hs]
      refine loop_all (Sf:=fun _=>sLa x l 0 0) (n:=0) (by simp) (fun j hj=>by omega) (goes_ofG tLa_ok (noTL_ok _ _) (finE_ok _ _ _) (noLoops idsLa.2.2.2) ((bLa x l 0 0).trans ?_))
      cases decide (((0:Nat):Int) < (l.length:Int))<;>rfl
    · simp at h
  · simp at h
def dgo (c:Int) (x:ItemR) (s:Str):Option (D Pl):=some (.agg (cDw ⟨c,x.p,s⟩))
def laL (x:ItemR) (l:List ItemR) (n:Nat):Option (D Pl):=ck_ ((Nat.ble l.length big&&okAh x l (n+1))&&(Nat.beq x.labels.length (n+1)&&Nat.ble n 3)) (bif noF (fun i=>!(laC x (l.getD i default) ((n+1:Nat):Int))) l.length then some (.agg (cDw dw0)) else some (.agg (cDw (laD x ((n+1:Nat):Int)))))
def la0 (x:ItemR):Option (D Pl):=bif (x.labels.length:Int) != 0 then dgo 1 x x.name else some (.agg (cDw dw0))
def la1 (x:ItemR) (l:List ItemR):Option (D Pl):=bif (x.labels.length:Int) != 1 then dgo 1 x x.name else ix_ 0 x.labels.length (bif !(T11.nameV (x.labels.getD 0 [])) then ix_ 0 x.labels.length (dgo 1 x (x.labels.getD 0 [])) else laL x l 0)
def la2 (x:ItemR) (l:List ItemR):Option (D Pl):=bif (x.labels.length:Int) != 2 then dgo 1 x x.name else ix_ 0 x.labels.length (bif ((T11.attrsV (x.labels.getD 0 [])).length:Int)==0 then ix_ 0 x.labels.length (dgo 9 x (x.labels.getD 0 [])) else
   ix_ 1 x.labels.length (bif !(T11.nameV (x.labels.getD 1 [])) then ix_ 1 x.labels.length (dgo 1 x (x.labels.getD 1 [])) else laL x l 1))
def laR (x:ItemR) (l:List ItemR):Option (D Pl):=bif x.name==n_resource then la2 x l else la0 x
def laK (x:ItemR) (l:List ItemR):Option (D Pl):=bif x.name==n_variable then (bif x.name==n_variable then la1 x l else laR x l) else bif x.name==n_output then (bif x.name==n_output then la1 x l else laR x l) else bif x.name==n_check then la1 x l else laR x l
theorem eLa (x:ItemR) (l:List ItemR):evF tLa noTL (atL 20 LSLa noL) 1 Tryz.f34 [.agg (cItem x),.pl (pItems l) .any]=laK x l:=by kernel_rfl
def nl (s:Str):Nat:=bif s==n_variable then 1 else bif s==n_output then 1 else bif s==n_check then 1 else bif s==n_resource then 2 else 0
def dupM (x:ItemR) (l:List ItemR) (n:Nat):DwR:=bif noF (fun i=>!(laC x (l.getD i default) ((n+1:Nat):Int))) l.length then dw0 else laD x ((n+1:Nat):Int)
def labM (x:ItemR) (l:List ItemR):DwR:=bif !(Nat.beq x.labels.length (nl x.name)) then ⟨1,x.p,x.name⟩ else match nl x.name with
  | 0=>dw0
  | 1=>bif !(T11.nameV (x.labels.getD 0 [])) then ⟨1,x.p,x.labels.getD 0 []⟩ else dupM x l 0
  | _=>bif (T11.attrsV (x.labels.getD 0 [])).isEmpty then ⟨9,x.p,x.labels.getD 0 []⟩ else bif !(T11.nameV (x.labels.getD 1 [])) then ⟨1,x.p,x.labels.getD 1 []⟩ else dupM x l 1
theorem nbeq (a b:Nat):((a:Int) != (b:Int))=!(Nat.beq a b):=by
  cases h:Nat.beq a b with
  | true=>have:=Nat.eq_of_beq_eq_true h;subst this;simp
  | false =>
    have:a≠b:=fun e=>by subst e;rw [show Nat.beq a a=true from Nat.beq_refl a] at h;cases h
    simp [bne_iff_ne];omega
theorem laL_eq {x:ItemR} {l:List ItemR} {n:Nat} (hl:l.length≤big) (hok:okAh x l (n+1)=true) (hx:x.labels.length=n+1) (hn:n≤3):laL x l n=some (.agg (cDw (dupM x l n))):=by
  unfold laL dupM
  rw [ck_t (by rw [ble_t hl,hok,hx,show Nat.beq (n+1) (n+1)=true from Nat.beq_refl _,ble_t hn];rfl)]
  cases noF (fun i=>!(laC x (l.getD i default) ((n+1:Nat):Int))) l.length<;>rfl
theorem la1_eq {x:ItemR} {l:List ItemR} (h:nl x.name=1) (hl:l.length≤big) (hok:okAh x l 1=true):la1 x l=some (.agg (cDw (labM x l))):=by
  unfold la1 labM
  rw [h,show ((x.labels.length:Int) != 1)=!(Nat.beq x.labels.length 1) from nbeq _ 1]
  cases hb:Nat.beq x.labels.length 1 with
  | false=>rfl
  | true =>
    have hx:=Nat.eq_of_beq_eq_true hb
    simp only [Bool.not_true,cond_false]
    rw [ix_t (by omega),ix_t (by omega)]
    cases T11.nameV (x.labels.getD 0 []) with
    | false=>rfl
    | true=>exact laL_eq hl hok hx (by omega)
theorem la2_eq {x:ItemR} {l:List ItemR} (h:nl x.name=2) (hl:l.length≤big) (hok:okAh x l 2=true):la2 x l=some (.agg (cDw (labM x l))):=by
  unfold la2 labM
  rw [h,show ((x.labels.length:Int) != 2)=!(Nat.beq x.labels.length 2) from nbeq _ 2]
  cases hb:Nat.beq x.labels.length 2 with
  | false=>rfl
  | true =>
    have hx:=Nat.eq_of_beq_eq_true hb
    simp only [Bool.not_true,cond_false]
    rw [ix_t (by omega),ix_t (by omega),ix_t (by omega),ix_t (by omega),show (((T11.attrsV (x.labels.getD 0 [])).length:Int)==0)=(T11.attrsV (x.labels.getD 0 [])).isEmpty by cases T11.attrsV (x.labels.getD 0 []) with
      | nil=>rfl
      | cons a r=>simp;omega]
    cases (T11.attrsV (x.labels.getD 0 [])).isEmpty with
    | true=>rfl
    | false =>
      cases T11.nameV (x.labels.getD 1 []) with
      | false=>rfl
      | true=>exact laL_eq hl hok hx (by omega)
theorem labels_sound (x:ItemR) (l:List ItemR) (hok:okAh x l (nl x.name)=true):Snd 34 [.agg (cItem x),.pl (pItems l) .any] (.agg (cDw (labM x l))):=by
  refine SoundAt.rooms fun hroom=>?_
  have hk:l.length * 288≤big:=hroom (.pl (pItems l) .any) (by simp)
  have hl:l.length≤big:=by omega
  have hLs:∀i,i < (loopsAt 34).length→LoopOk X0 (atL 20 LSLa noL) (loopAt 34 i) :=
    loops_2 idsLa.1 (atL_ok (fun h=>absurd (idsLa.2.1.symm.trans h) (by decide)) fun _=>noL_ok _ _) (atL_ok (fun _=>LSLa_ok) fun h=>absurd idsLa.2.2.1 h)
  refine snd_fn (n:=1) tLa_ok (noTL_ok _ _) (f:=34) (fn:=Tryz.f34) (by kernel_rfl) (loops_of (f:=34) (fn:=Tryz.f34) (by kernel_rfl) hLs) ((eLa x l).trans ?_)
  unfold laK laR
  cases h1:x.name==n_variable with
  | true =>
    have hn:nl x.name=1:=by unfold nl;rw [h1];rfl
    rw [hn] at hok
    exact la1_eq hn hl hok
  | false =>
  cases h2:x.name==n_output with
  | true =>
    have hn:nl x.name=1:=by unfold nl;rw [h1,h2];rfl
    rw [hn] at hok
    exact la1_eq hn hl hok
  | false =>
  cases h3:x.name==n_check with
  | true =>
    have hn:nl x.name=1:=by unfold nl;rw [h1,h2,h3];rfl
    rw [hn] at hok
    exact la1_eq hn hl hok
  | false =>
  cases h4:x.name==n_resource with
  | true =>
    have hn:nl x.name=2:=by unfold nl;rw [h1,h2,h3,h4];rfl
    rw [hn] at hok
    exact la2_eq hn hl hok
  | false =>
    have hn:nl x.name=0:=by unfold nl;rw [h1,h2,h3,h4];rfl
    simp only [cond_false]
    unfold la0 labM
    rw [hn,show ((x.labels.length:Int) != 0)=!(Nat.beq x.labels.length 0) from nbeq _ 0]
    cases Nat.beq x.labels.length 0<;>rfl
end Go.Proofs.YtobleaffkomcmaaGreatDoor
namespace Go.Proofs.YtobleaffkomcmaaGreatDoor
open Go.Eng
set_option maxRecDepth 100000
def n_type:Str:=[116,121,112,101]
def n_default:Str:=[100,101,102,97,117,108,116]
def n_prevent_destroy:Str:=[112,114,101,118,101,110,116,95,100,101,115,116,114,111,121]
def n_create_before_destroy:Str:=[99,114,101,97,116,101,95,98,101,102,111,114,101,95,100,101,115,116,114,111,121]
def n_ignore_changes:Str:=[105,103,110,111,114,101,95,99,104,97,110,103,101,115]
def n_replace_triggered_by:Str:=[114,101,112,108,97,99,101,95,116,114,105,103,103,101,114,101,100,95,98,121]
def n_if_:Str:=[105,102]
def n_say:Str:=[115,97,121]
def n_value:Str:=[118,97,108,117,101]
def n_count:Str:=[99,111,117,110,116]
def n_for_each:Str:=[102,111,114,95,101,97,99,104]
def n_depends_on:Str:=[100,101,112,101,110,100,115,95,111,110]
def n_lifecycle:Str:=[108,105,102,101,99,121,99,108,101]
def n_precondition:Str:=[112,114,101,99,111,110,100,105,116,105,111,110]
def n_postcondition:Str:=[112,111,115,116,99,111,110,100,105,116,105,111,110]
def pss (f:Str→Str→D Pl):List (D Pl)→Option (Bool×D Pl)
  | [.str t,.str k]=>some (true,f t k)
  | _=>none
theorem pss_ok {g:FuncId} {f:Str→Str→D Pl} (h:∀t k,Snd g [.str t,.str k] (f t k)):∀ds b d,pss f ds=some (b,d)→b=true→Snd g ds d:=by
  intro ds b d hp hb
  unfold pss at hp
  split at hp
  · simp only [Option.some.injEq,Prod.mk.injEq] at hp
    obtain ⟨_,rfl⟩:=hp
    exact h _ _
  · simp at hp
def tAw:Eng.Told Pl:=tell 33 pDi (tell 32 (pHasS fun l x=>.bool (hasS l x)) (tell 100 (pss fun t n=>.tup [.agg (cA (T11.getA (T11.attrsV t) n)),.bool (T11.hasA (T11.attrsV t) n)])
  (tell 37 (pS fun s=>.tup [.agg (cTyp (T11.tyK s T11.tyL).1),dI (T11.tyK s T11.tyL).2]) (tell 75 (pe1 fun e=>(true,.tup [.pl (pStrs (litM e)) .any,.bool (litB e)])) (tell 40 (pS fun s=>.tup [.str (splitM s).1,.str (splitM s).2.1,.bool (splitM s).2.2])
  (tell 71 (pS fun s=>.bool (T11.nameV s)) tell0))))))
def rAw (d:DwR):St Pl:=mkS 205 [(6,.ptr 6 0)] [(6,.box false (cDw d))]
def sAw (t:Str) (y:ItemR) (l:List Str) (i:Int):St Pl:=mkS 205 [(1,.str t),(5,.ptr 5 0),(6,.ptr 6 0),(13,.pl (pStrs l) .any),(15,dI i)] [(6,.box false dz),(5,.box false (cItem y))]
noncomputable def fAw:Fin:=finE { keep:=[1,5,6,13,15],lose:=[19],ord:=[6,5] } { keep:=[6],lose:=[5,19] } { keep:=[6],lose:=[5,19] }
def notC (t s:Str):Bool:=bif T11.hasA (T11.attrsV t) s then !(T11.getA (T11.attrsV t) s).comp else false
def okL (t:Str) (y:ItemR) (s:Str):Bool:=bif y.name==n_ignore_changes then notC t s else (splitM s).2.2
theorem tAw_ok:TOk tAw:=tell_ok pDi_ok (tell_ok (pHasS_ok has_sound) (tell_ok (pss_ok T11.FindA_sound) (tell_ok (pS_ok T11.ty_sound) (tell_ok (pe1_ok fun e _=>lit_sound e) (tell_ok (pS_ok split_sound) (tell_ok (pS_ok T11.name_sound) (tell0_ok _)))))))
def alB (t:Str) (y:ItemR) (l:List Str) (i:Nat) (b:Bool):Option (Ex×St Pl):=bif !b then ix_ i l.length (some (.ret,rAw ⟨9,y.p,l.getD i []⟩)) else some (.normal,sAw t y l (w64 ((i:Int)+1)))
theorem bAw (t:Str) (y:ItemR) (l:List Str) (i:Nat):evG tAw noTL noL 1 (loopAt 72 0) fAw (sAw t y l i) =
   lt_ i l.length (ix_ i l.length (bif y.name==n_ignore_changes then ix_ i l.length (alB t y l i (notC t (l.getD i []))) else alB t y l i (splitM (l.getD i [])).2.2)) (some (.exit 1,rAw dw0)):=by kernel_rfl
theorem idsAw:(loopsAt 72).length=1∧firstId (loopAt 72 0)=26∧loopsOf (loopAt 72 0)=[]:=⟨by kernel_rfl,by kernel_rfl,by kernel_rfl⟩
def bdL (t:Str) (y:ItemR) (l:List Str):Nat:=ff (fun i=>okL t y (l.getD i [])) l.length
def FAh:Fix Pl:={ keep:=[1,5,6,13,15],lose:=[7,9,11,21,22,23,24,25,26,27,28],ord:=[6,5] }
noncomputable def LSAw (S:St Pl):Option (Bool×LR Pl):=match seenS 205 [1,5,6,13,15] (fixS X0.C FAh S) with
  | some ([.str t,.ptr 5 0,.ptr 6 0,.pl ⟨.strs,l⟩ .any,.int .i64 (.ofNat 0)],[(6,.box false [.int .i64 (.ofNat 0),.int .i64 (.ofNat 0),.int .i64 (.ofNat 0),.int .i64 (.ofNat 0),.str []]),(5,.box false cy)]) =>
    (match xItem cy with
    | some y=>some (Nat.ble l.length big,loopR l.length (fun i=>okL t y (l.getD i [])) (.exit 1) (rAw dw0) .ret fun i=>rAw ⟨9,y.p,l.getD i []⟩)
    | none=>none)
  | _=>none
def nmOf (b:Str):List Str:=bif b==n_variable then [n_type,n_default] else bif b==n_lifecycle then [n_prevent_destroy,n_create_before_destroy,n_ignore_changes,n_replace_triggered_by] else bif b==n_precondition then [n_if_,n_say] else bif b==n_postcondition then [n_if_,n_say] else bif b==n_check then [n_if_,n_say] else bif b==n_output then [n_value] else [n_count,n_for_each,n_depends_on]
def okD:Option (D Pl):=some (.agg (cDw dw0))
def litK (t:Str) (y:ItemR):Option (D Pl):=bif !(litB (etaE y.e)) then dgo 8 y y.name else ck_ (Nat.ble (litM (etaE y.e)).length big) (bif noF (fun i=>okL t y ((litM (etaE y.e)).getD i [])) (litM (etaE y.e)).length then okD else dgo 9 y ((litM (etaE y.e)).getD (bdL t y (litM (etaE y.e))) []))
def swK (b t:Str) (y:ItemR):Option (D Pl) :=
  bif (bif b==n_variable then y.name==n_type else false) then (bif (bif y.e.op != 1 then true else y.e.v.kind != 3) then dgo 8 y y.name else bif (T11.tyK y.e.v.s T11.tyL).2 != 0 then dgo 9 y y.e.v.s else okD)
  else bif (bif b==n_lifecycle then (bif y.name==n_prevent_destroy then true else y.name==n_create_before_destroy) else false) then (bif (bif y.e.op != 1 then true else y.e.v.kind != 1) then dgo 8 y y.name else okD)
  else bif (bif b==n_lifecycle then true else bif b==n_resource then y.name==n_depends_on else false) then litK t y else okD
def alK (b t:Str) (y:ItemR):Option (D Pl):=bif b==n_locals then (bif !(T11.nameV y.name) then dgo 1 y y.name else okD) else
  (let C:=fun ok=>bif !ok then dgo 9 y y.name else swK b t y
   bif (bif b==n_resource then !(hasS (nmOf b) y.name) else false) then C (notC t y.name) else C (hasS (nmOf b) y.name))
theorem LSAw_ok:SOk X0 (loopAt 72 0) LSAw:=by
  intro S c r h hc
  unfold LSAw at h
  split at h
  · rename_i t l cy hs
    split at h
    · rename_i y hy
      simp only [Option.some.injEq,Prod.mk.injEq] at h
      obtain ⟨rfl,rfl⟩:=h
      simp only [Nat.ble_eq] at hc
      rw [xItem_eq hy] at hs
      refine Goes.weakPre (Weak.fix xok FAh S) (Goes.pre (keepOf [1,5,6,13,15]) ?_)
      rw [seenS_mask hs]
      refine srch tAw_ok (noLoops idsAw.2.2) (finE_ok _ _ _) (k:=1) (Sf:=fun i=>sAw t y l i) hc (by simp) (by simp) (fun i hi=>(bAw t y l i).trans ?_) ((bAw t y l l.length).trans (lt_f (by omega) _ _))
      unfold okL alB
      rw [lt_t hi,ix_t hi,ix_t hi,ix_t hi]
      cases y.name==n_ignore_changes with
      | true=>simp only [cond_true];cases notC t (l.getD i [])<;>rfl
      | false=>simp only [cond_false];cases (splitM (l.getD i [])).2.2<;>rfl
    · simp at h
  · simp at h
def blkN (b:Str):Bool:=bif b==n_variable then true else bif b==n_locals then true else bif b==n_resource then true else bif b==n_output then true else bif b==n_check then true else bif b==n_lifecycle then true else bif b==n_precondition then true else b==n_postcondition
theorem blkN_cases {P:Str→Prop} (h1:P n_variable) (h2:P n_locals) (h3:P n_resource) (h4:P n_output) (h5:P n_check) (h6:P n_lifecycle) (h7:P n_precondition) (h8:P n_postcondition):∀b,blkN b=true→P b:=by
  intro b h
  unfold blkN at h
  cases c1:b==n_variable with
  | true=>rw [beq_iff_eq.1 c1];exact h1
  | false =>
  cases c2:b==n_locals with
  | true=>rw [beq_iff_eq.1 c2];exact h2
  | false =>
  cases c3:b==n_resource with
  | true=>rw [beq_iff_eq.1 c3];exact h3
  | false =>
  cases c4:b==n_output with
  | true=>rw [beq_iff_eq.1 c4];exact h4
  | false =>
  cases c5:b==n_check with
  | true=>rw [beq_iff_eq.1 c5];exact h5
  | false =>
  cases c6:b==n_lifecycle with
  | true=>rw [beq_iff_eq.1 c6];exact h6
  | false =>
  cases c7:b==n_precondition with
  | true=>rw [beq_iff_eq.1 c7];exact h7
  | false =>
    rw [c1,c2,c3,c4,c5,c6,c7] at h
    rw [beq_iff_eq.1 (show (b==n_postcondition)=true from h)];exact h8
abbrev AlE (b:Str):Prop:=∀(t:Str) (y:ItemR),evF tAw noTL (atL 26 LSAw noL) 1 Tryz.f72 [.str b,.str t,.agg (cItem y)]=alK b t y
theorem eAl1:AlE n_variable:=fun t y=>by kernel_rfl
theorem eAl2:AlE n_locals:=fun t y=>by kernel_rfl
theorem eAl3:AlE n_resource:=fun t y=>by kernel_rfl
theorem eAl4:AlE n_output:=fun t y=>by kernel_rfl
theorem eAl5:AlE n_check:=fun t y=>by kernel_rfl
theorem eAl6:AlE n_lifecycle:=fun t y=>by kernel_rfl
theorem eAl7:AlE n_precondition:=fun t y=>by kernel_rfl
theorem eAl8:AlE n_postcondition:=fun t y=>by kernel_rfl
theorem eAl:∀b,blkN b=true→AlE b:=blkN_cases eAl1 eAl2 eAl3 eAl4 eAl5 eAl6 eAl7 eAl8
theorem alK_some (b t:Str) (y:ItemR) (hl:(litM y.e).length≤big):∃d,alK b t y=some (.agg (cDw d)):=by
  unfold alK swK litK dgo okD
  rw [etaE_eq,ble_t hl]
  simp only [ck_,cond_true]
  repeat' first | exact ⟨_,rfl⟩ | (rw [Bool.cond_eq_ite];split)
noncomputable def alM (b t:Str) (y:ItemR):DwR:=Classical.epsilon fun d=>alK b t y=some (.agg (cDw d))
theorem litM_len (e:ExprR):(litM e).length≤e.l.length:=by
  unfold litM
  cases litB e with
  | true=>simp [litT]
  | false=>simp
theorem al_sound (b t:Str) (y:ItemR) (hb:blkN b=true):Snd 72 [.str b,.str t,.agg (cItem y)] (.agg (cDw (alM b t y))):=by
  refine SoundAt.rooms fun hroom=>?_
  have hr:Room _ (.agg (cItem y)):=hroom _ (by simp)
  have hk:y.e.l.length * 192≤big:=hr (.pl (pExprs y.e.l) .any) (by simp [cItem])
  have hex:=alK_some b t y (by have:=litM_len y.e;omega)
  exact snd_fn (n:=1) tAw_ok (noTL_ok _ _) (f:=72) (fn:=Tryz.f72) (by kernel_rfl) (loops_of (f:=72) (fn:=Tryz.f72) (by kernel_rfl) (loops_1 idsAw.1 (atL_ok (fun _=>LSAw_ok) fun h=>absurd idsAw.2.1 h))) ((eAl b hb t y).trans (Classical.epsilon_spec hex))
end Go.Proofs.YtobleaffkomcmaaGreatDoor
