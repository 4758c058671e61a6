/-
  THE DOCUMENT's DECLARATIONS: the resource of a block, by its contract.
-/
import Derived.Test.YtobleaffkomcmaaGreatDoorDeclE2
namespace Go.Proofs.YtobleaffkomcmaaGreatDoor
open Go.Eng
set_option maxRecDepth 100000
namespace Res
def tRe:Eng.Told Pl:=tell 39 (fun ds=>match ds with
  | [d]=>(match asI d with
    | some x=>some (true,.agg (cCond (condC x)))
    | none=>none)
  | _=>none) (tell 36 (pItS atT) (tell 75 (pe1 fun e=>(true,.tup [.pl (pStrs (litM e)) .any,.bool (litB e)])) tell0))
def cRb (r:ResR):List (D Pl):=[.str r.ty,.str r.name,.arr 47,cOE r.count,cOE r.each,.pl (pStrs r.depends) .any,.bool r.guard,.bool r.first,.pl (pStrs r.ignore) .any,.pl (pStrs r.trigger) .any,.arr 62,.arr 77,dI r.p.at',dI r.p.line,dI r.p.col]
def zR:List (D Pl):=[.str [],.str [],.nilS,.nilP,.nilP,.nilS,.bool false,.bool false,.nilS,.nilS,.nilS,.nilS,dI 0,dI 0,dI 0]
def sRe (x:ItemR) (r:ResR) (i:Int):St Pl:=mkS 149 [(1,.ptr 1 0),(2,.ptr 2 0),(3,.ptr 3 0),(4,dI i)] [(47,.arr false (pFields r.fields)),(62,.arr false (pConds r.pre)),(77,.arr false (pConds r.post)),(3,.box false (cRb r)),(2,.box false zR),(1,.box false (cItem x))]
def rRe (r:ResR):St Pl:=mkS 149 [(2,.ptr 2 0),(3,.ptr 3 0)] [(47,.arr false (pFields r.fields)),(62,.arr false (pConds r.pre)),(77,.arr false (pConds r.post)),(3,.box false (cRb r)),(2,.box false zR)]
noncomputable def fRe:Fin:=finE { calmp:=[6],keep:=[1,2,3,4],lose:=[5,6,7,9,11,13],ord:=[47,62,77,3,2,1] } { keep:=[2,3],lose:=[1],ord:=[47,62,77,3,2] } { keep:=[] }
def etaC (c:CondR):CondR:=⟨c.name,etaE c.if',etaE c.say⟩
def withC (r:ResR) (c e:Option ExprR):ResR:=⟨r.ty,r.name,r.fields,c,e,r.depends,r.guard,r.first,r.ignore,r.trigger,r.pre,r.post,r.p⟩
section
variable {β:Type} (AF:List FieldR→FieldR→(List FieldR→Option β)→Option β) (AC:List CondR→CondR→(List CondR→Option β)→Option β) (e:ItemR→ItemR) (eE:ExprR→ExprR) (r:ResR) (y:ItemR) (N:ResR→Option β)
def reA1 (r:ResR):Option β:=bif hasAt (e y) n_replace_triggered_by then N { r with trigger:=litM (eE (getAt (e y) n_replace_triggered_by)) } else N r
def reA2 (r:ResR):Option β:=bif hasAt (e y) n_ignore_changes then reA1 e eE y N { r with ignore:=litM (eE (getAt (e y) n_ignore_changes)) } else reA1 e eE y N r
def reA3 (r:ResR):Option β:=bif hasAt (e y) n_create_before_destroy then reA2 e eE y N { r with first:=(getAt (e y) n_create_before_destroy).v.i==1 } else reA2 e eE y N r
def reA4 (r:ResR):Option β:=bif hasAt (e y) n_prevent_destroy then reA3 e eE y N { r with guard:=(getAt (e y) n_prevent_destroy).v.i==1 } else reA3 e eE y N r
def reB:Option β :=
  bif (bif y.block then y.name==n_precondition else false) then AC r.pre (condC (e y)) fun l=>N { r with pre:=l }
  else bif (bif y.block then y.name==n_postcondition else false) then AC r.post (condC (e y)) fun l=>N { r with post:=l }
  else bif y.block then reA4 e eE y N r
  else bif y.name==n_count then N { r with count:=some y.e }
  else bif y.name==n_for_each then N { r with each:=some y.e }
  else bif y.name==n_depends_on then N { r with depends:=litM (eE y.e) }
  else AF r.fields ⟨y.name,y.e⟩ fun l=>N { r with fields:=l }
end
def apF (o:List FieldR) (x:FieldR) (k:List FieldR→Option (Ex×St Pl)):Option (Ex×St Pl):=apK 208 o ⟨x.name,etaE x.e⟩ k
def apC (o:List CondR) (x:CondR) (k:List CondR→Option (Ex×St Pl)):Option (Ex×St Pl):=apK 400 o (etaC x) k
abbrev BRe (x:ItemR) (i:Nat) (r:ResR):Prop:=evG tRe noTL noL 1 (loopAt 38 0) fRe (sRe x r i) =
   lt_ i x.items.length (ix_ i x.items.length (reB apF apC etaI etaE r (x.items.getD i default) fun r=>some (.normal,sRe x r (w64 ((i:Int)+1))))) (some (.exit 0,rRe r))
theorem bRe1 (x:ItemR) (i:Nat) (r:ResR):evG tRe noTL noL 1 (loopAt 38 0) fRe (sRe x (withC r none none) i) =
   lt_ i x.items.length (ix_ i x.items.length (reB apF apC etaI etaE (withC r none none) (x.items.getD i default) fun r=>some (.normal,sRe x r (w64 ((i:Int)+1))))) (some (.exit 0,rRe (withC r none none))):=by kernel_rfl
theorem bRe2 (x:ItemR) (i:Nat) (r:ResR) (e:ExprR):evG tRe noTL noL 1 (loopAt 38 0) fRe (sRe x (withC r none (some e)) i) =
   lt_ i x.items.length (ix_ i x.items.length (reB apF apC etaI etaE (withC r none (some e)) (x.items.getD i default) fun r=>some (.normal,sRe x r (w64 ((i:Int)+1))))) (some (.exit 0,rRe (withC r none (some e)))):=by kernel_rfl
theorem bRe3 (x:ItemR) (i:Nat) (r:ResR) (c:ExprR):evG tRe noTL noL 1 (loopAt 38 0) fRe (sRe x (withC r (some c) none) i) =
   lt_ i x.items.length (ix_ i x.items.length (reB apF apC etaI etaE (withC r (some c) none) (x.items.getD i default) fun r=>some (.normal,sRe x r (w64 ((i:Int)+1))))) (some (.exit 0,rRe (withC r (some c) none))):=by kernel_rfl
theorem bRe4 (x:ItemR) (i:Nat) (r:ResR) (c e:ExprR):evG tRe noTL noL 1 (loopAt 38 0) fRe (sRe x (withC r (some c) (some e)) i) =
   lt_ i x.items.length (ix_ i x.items.length (reB apF apC etaI etaE (withC r (some c) (some e)) (x.items.getD i default) fun r=>some (.normal,sRe x r (w64 ((i:Int)+1))))) (some (.exit 0,rRe (withC r (some c) (some e)))):=by kernel_rfl
theorem bRe (x:ItemR) (i:Nat) (r:ResR):BRe x i r:=by
  obtain ⟨ty,nm,fs,co,ea,de,g,f,ig,tr,pr,po,p⟩:=r
  cases co with
  | none =>
    cases ea with
    | none=>exact bRe1 x i ⟨ty,nm,fs,none,none,de,g,f,ig,tr,pr,po,p⟩
    | some e=>exact bRe2 x i ⟨ty,nm,fs,none,none,de,g,f,ig,tr,pr,po,p⟩ e
  | some c =>
    cases ea with
    | none=>exact bRe3 x i ⟨ty,nm,fs,none,none,de,g,f,ig,tr,pr,po,p⟩ c
    | some e=>exact bRe4 x i ⟨ty,nm,fs,none,none,de,g,f,ig,tr,pr,po,p⟩ c e
theorem idsRe:(loopsAt 38).length=1∧firstId (loopAt 38 0)=3∧loopsOf (loopAt 38 0)=[]:=⟨by kernel_rfl,by kernel_rfl,by kernel_rfl⟩
theorem tRe_ok:TOk tRe:=tell_ok (fun ds b d h hb=>by
  split at h
  · split at h
    · rename_i h1
      simp only [Option.some.injEq,Prod.mk.injEq] at h
      obtain ⟨_,rfl⟩:=h
      exact (cond12_sound _).pre (.cons (asI_rdle h1) .nil)
    · simp at h
  · simp at h) (tell_ok atT_ok (tell_ok (pe1_ok fun e _=>lit_sound e) (tell0_ok _)))
def resL (x:ItemR):Nat→Nat→ResR→Option ResR
  | 0,_,r=>some r
  | k+1,i,r=>reB (fun o a K=>K (o++[a])) (fun o a K=>K (o++[a])) id id r (x.items.getD i default) fun r=>resL x k (i+1) r
structure Small (r:ResR) (i:Nat):Prop where
  f:r.fields.length≤i
  a:r.pre.length≤i
  b:r.post.length≤i
theorem etaC_eq (c:CondR):etaC c=c:=by
  obtain ⟨n,a,b⟩:=c
  show (⟨n,etaE a,etaE b⟩:CondR)=_
  rw [etaE_eq,etaE_eq]
theorem re_rnd (x:ItemR) (hl:x.items.length≤1000000000) :
    ∀(k i:Nat) (r q:ResR),x.items.length - i=k→i≤x.items.length→Small r i→resL x k i r=some q→Rnd (loopAt 38 0) (sRe x r i) (.exit 0) (rRe q)
  | 0,i,r,q,hk,hi,hs,h=>by
    obtain rfl:i=x.items.length:=by omega
    obtain rfl:=Option.some.inj h
    exact .stop (by simp) (goes_ofG tRe_ok (noTL_ok _ _) (finE_ok _ _ _) (noLoops idsRe.2.2) ((bRe x x.items.length _).trans (lt_f (by omega) _ _)))
  | k+1,i,r,q,hk,hi,hs,h=>by
    have hbig:big=140737488355328:=rfl
    have hlt:i < x.items.length:=by omega
    have hw:w64 ((i:Int)+1)=((i+1:Nat):Int):=wrap_nat (by omega)
    have step:=fun e S' (h:_=some (e,S'))=>goes_ofG tRe_ok (noTL_ok _ _) (finE_ok _ _ _) (noLoops idsRe.2.2) ((bRe x i r).trans h)
    rw [lt_t hlt,ix_t hlt,hw] at step
    unfold resL at h
    generalize x.items.getD i default=y at *
    have hN:∀r':ResR,Small r' (i+1)→SimR (loopAt 38 0) (sRe x r i) (fun q=>(Ex.exit 0,rRe q)) (resL x k (i+1) r') (some (.normal,sRe x r' ((i+1:Nat):Int))) :=
      fun r' hs'=>.step fun q hq=>re_rnd x hl k (i+1) r' q (by omega) (by omega) hs' hq
    have hs1:Small r (i+1):=⟨by have:=hs.f;omega,by have:=hs.a;omega,by have:=hs.b;omega⟩
    refine (?_:SimR (loopAt 38 0) (sRe x r i) (fun q=>(Ex.exit 0,rRe q)) _ _) q h step
    have h1:∀r':ResR,Small r' (i+1)→SimR (loopAt 38 0) (sRe x r i) (fun q=>(Ex.exit 0,rRe q)) (reA1 id id y (fun r=>resL x k (i+1) r) r') (reA1 etaI etaE y (fun r=>some (.normal,sRe x r ((i+1:Nat):Int))) r'):=by
      intro r' h'
      unfold reA1
      rw [etaI_eq,etaE_eq]
      exact .br (fun _=>hN _ ⟨h'.f,h'.a,h'.b⟩) fun _=>hN _ h'
    have h2:∀r':ResR,Small r' (i+1)→SimR (loopAt 38 0) (sRe x r i) (fun q=>(Ex.exit 0,rRe q)) (reA2 id id y (fun r=>resL x k (i+1) r) r') (reA2 etaI etaE y (fun r=>some (.normal,sRe x r ((i+1:Nat):Int))) r'):=by
      intro r' h'
      unfold reA2
      rw [etaI_eq,etaE_eq]
      exact .br (fun _=>h1 _ ⟨h'.f,h'.a,h'.b⟩) fun _=>h1 _ h'
    have h3:∀r':ResR,Small r' (i+1)→SimR (loopAt 38 0) (sRe x r i) (fun q=>(Ex.exit 0,rRe q)) (reA3 id id y (fun r=>resL x k (i+1) r) r') (reA3 etaI etaE y (fun r=>some (.normal,sRe x r ((i+1:Nat):Int))) r'):=by
      intro r' h'
      unfold reA3
      rw [etaI_eq]
      exact .br (fun _=>h2 _ ⟨h'.f,h'.a,h'.b⟩) fun _=>h2 _ h'
    have h4:∀r':ResR,Small r' (i+1)→SimR (loopAt 38 0) (sRe x r i) (fun q=>(Ex.exit 0,rRe q)) (reA4 id id y (fun r=>resL x k (i+1) r) r') (reA4 etaI etaE y (fun r=>some (.normal,sRe x r ((i+1:Nat):Int))) r'):=by
      intro r' h'
      unfold reA4
      rw [etaI_eq]
      exact .br (fun _=>h3 _ ⟨h'.f,h'.a,h'.b⟩) fun _=>h3 _ h'
    unfold reB
    rw [etaI_eq,etaE_eq]
    have hf:=hs.f
    have ha:=hs.a
    have hb:=hs.b
    refine .br (fun _=>?_) fun _=>.br (fun _=>?_) fun _=>.br (fun _=>h4 _ hs1) fun _=>.br (fun _=>hN _ ⟨hs1.f,hs1.a,hs1.b⟩) fun _=>.br (fun _=>hN _ ⟨hs1.f,hs1.a,hs1.b⟩) fun _=>.br (fun _=>hN _ ⟨hs1.f,hs1.a,hs1.b⟩) fun _=>?_
    · unfold apC
      rw [apK_t (by omega),etaC_eq]
      exact hN _ ⟨hs1.f,by rw [List.length_append,List.length_singleton];omega,hs1.b⟩
    · unfold apC
      rw [apK_t (by omega),etaC_eq]
      exact hN _ ⟨hs1.f,hs1.a,by rw [List.length_append,List.length_singleton];omega⟩
    · unfold apF
      rw [apK_t (by omega),etaE_eq]
      exact hN _ ⟨by rw [List.length_append,List.length_singleton];omega,hs1.a,hs1.b⟩
theorem resL_some (x:ItemR):∀(k i:Nat) (r:ResR),∃q,resL x k i r=some q
  | 0,_,_=>⟨_,rfl⟩
  | k+1,i,r=>by
    have br:∀{c:Bool} {a b:Option ResR},(∃r,a=some r)→(∃r,b=some r)→∃r,(bif c then a else b)=some r:=by intro c a b h1 h2;cases c<;>assumption
    have hN:=fun r=>resL_some x k (i+1) r
    unfold resL reB reA4 reA3 reA2 reA1
    repeat' first | exact hN _ | apply br
def r0 (ty nm:Str) (p:PosR):ResR:=⟨ty,nm,[],none,none,[],false,false,[],[],[],[],p⟩
def sRe0 (x:ItemR) (ty nm:Str) (p:PosR):St Pl:=mkS 149 [(1,.ptr 1 0),(2,.ptr 2 0),(3,.ptr 3 0),(4,dI 0)] [(3,.box false [.str ty,.str nm,.nilS,.nilP,.nilP,.nilS,.bool false,.bool false,.nilS,.nilS,.nilS,.nilS,dI p.at',dI p.line,dI p.col]),(2,.box false zR),(1,.box false (cItem x))]
def FRe0:Fix Pl:={ keep:=[1,2,3,4],wid:=[(3,5,pStrs []),(3,8,pStrs []),(3,9,pStrs [])],nils:=[(.cell 3 2,47,pFields []),(.cell 3 10,62,pConds []),(.cell 3 11,77,pConds [])],ord:=[47,62,77,3,2,1] }
theorem weakRe_eq (x:ItemR) (ty nm:Str) (p:PosR):fixS X0.C FRe0 (sRe0 x ty nm p)=sRe x (r0 ty nm p) 0:=by kernel_rfl
theorem weakRe (x:ItemR) (ty nm:Str) (p:PosR):Weak X0 (sRe0 x ty nm p) (sRe x (r0 ty nm p) 0):=weakRe_eq x ty nm p ▸ Weak.fix xok FRe0 (sRe0 x ty nm p)
def leafRe (R:ResR) (c e:Option ExprR):LR Pl:=.leaf (.exit 0) (rRe (withC R c e))
def endRe (R:ResR):LR Pl:=.ite R.count.isSome (.ite R.each.isSome (leafRe R (some (R.count.getD e00)) (some (R.each.getD e00))) (leafRe R (some (R.count.getD e00)) none)) (.ite R.each.isSome (leafRe R none (some (R.each.getD e00))) (leafRe R none none))
theorem endRe_eq (R:ResR):pickR (endRe R)=(.exit 0,rRe R):=by
  obtain ⟨ty,nm,fs,c,e,de,g,f,ig,tr,pr,po,p⟩:=R
  cases c<;>cases e<;>rfl
def LSRe (S:St Pl):Option (Bool×LR Pl):=match seenS 149 [1,2,3,4] S with
  | some ([.ptr 1 0,.ptr 2 0,.ptr 3 0,.int .i64 (.ofNat 0)],[(3,.box false [.str ty,.str nm,.nilS,.nilP,.nilP,.nilS,.bool false,.bool false,.nilS,.nilS,.nilS,.nilS,.int .i64 a,.int .i64 b,.int .i64 c]),(2,.box false [.str [],.str [],.nilS,.nilP,.nilP,.nilS,.bool false,.bool false,.nilS,.nilS,.nilS,.nilS,.int .i64 (.ofNat 0),.int .i64 (.ofNat 0),.int .i64 (.ofNat 0)]),(1,.box false cx)]) =>
    (match xItem cx with
    | some x=>some (Nat.ble x.items.length 1000000000,endRe (prP (resL x x.items.length 0 (r0 ty nm ⟨a,b,c⟩))))
    | none=>none)
  | _=>none
theorem LSRe_ok:SOk X0 (loopAt 38 0) LSRe:=by
  intro S c r h hc
  unfold LSRe at h
  split at h
  · rename_i ty nm a b d cx hs
    split at h
    · rename_i x hx
      simp only [Option.some.injEq,Prod.mk.injEq] at h
      obtain ⟨rfl,rfl⟩:=h
      simp only [Nat.ble_eq] at hc
      rw [xItem_eq hx] at hs
      refine Goes.pre (keepOf [1,2,3,4]) ?_
      rw [seenS_mask hs,endRe_eq]
      refine Goes.weakPre (weakRe x ty nm ⟨a,b,d⟩) ?_
      obtain ⟨q,hq⟩:=resL_some x x.items.length 0 (r0 ty nm ⟨a,b,d⟩)
      have:=(re_rnd x hc x.items.length 0 (r0 ty nm ⟨a,b,d⟩) q (by omega) (by omega) ⟨by simp [r0],by simp [r0],by simp [r0]⟩ hq).goes
      rw [hq]
      exact this
    · simp at h
  · simp at h
def resV (x:ItemR):ResR:=prP (resL x x.items.length 0 (r0 (x.labels.getD 0 []) (x.labels.getD 1 []) x.p))
def reK (x:ItemR) (R:ResR):Option (D Pl):=bif R.count.isSome then (bif R.each.isSome then some (.agg (cRes (withC R (some (R.count.getD e00)) (some (R.each.getD e00))))) else some (.agg (cRes (withC R (some (R.count.getD e00)) none)))) else (bif R.each.isSome then some (.agg (cRes (withC R none (some (R.each.getD e00))))) else some (.agg (cRes (withC R none none))))
def resW (x:ItemR):ResR:=prP (resL (etaI x) x.items.length 0 (r0 (x.labels.getD 0 []) (x.labels.getD 1 []) (etaP x.p)))
end Res
end Go.Proofs.YtobleaffkomcmaaGreatDoor
namespace Go.Proofs.YtobleaffkomcmaaGreatDoor
open Go.Eng
set_option maxRecDepth 100000
namespace Res
theorem eRe (x:ItemR):evF tRe noTL (atL 3 LSRe noL) 1 Tryz.f38 [.agg (cItem x)]=ix_ 0 x.labels.length (ix_ 1 x.labels.length (ck_ (Nat.ble x.items.length 1000000000) (reK x (resW x)))):=by kernel_rfl
theorem reK_eq (x:ItemR) (R:ResR):reK x R=some (.agg (cRes R)):=by
  obtain ⟨ty,nm,fs,c,e,de,g,f,ig,tr,pr,po,p⟩:=R
  cases c<;>cases e<;>rfl
theorem res_sound (x:ItemR) (h2:1 < x.labels.length) (hl:x.items.length≤1000000000):Snd 38 [.agg (cItem x)] (.agg (cRes (resV x))):=by
  refine snd_fn (n:=1) tRe_ok (noTL_ok _ _) (f:=38) (fn:=Tryz.f38) (by kernel_rfl) (loops_of (f:=38) (fn:=Tryz.f38) (by kernel_rfl) (loops_1 idsRe.1 (atL_ok (fun _=>LSRe_ok) fun h=>absurd idsRe.2.1 h))) ((eRe x).trans ?_)
  rw [ix_t (by omega),ix_t h2,ck_t (ble_t hl),reK_eq]
  unfold resW resV
  rw [etaI_eq]
  rfl
end Res
end Go.Proofs.YtobleaffkomcmaaGreatDoor
