/-
 THE BRIDGE: WHAT IS READ AS DATA BEFORE THE CALL READS AS THE ENGINE's DATA.
-/
import Derived.Test.YtcgbgcconigdbaaGreatDoorEngW
import Derived.ProofKit
import Derived.Handed
import Derived.Carry
import Derived.ChangeSame
import Derived.LaidMore
import Derived.MakeChecks
import Derived.WideKeyArgs
import Derived.Lib.LaidTab
namespace Go.Eng
open Go.RowKit
variable {α:Type} {P:Program} {C:Pay α} {glob:Nat→Option (List (D α))}
theorem CallOk.mono {f:FuncId} {vs:Array Value} {w:World} {A B:Value→World→Prop} (h:CallOk P f vs w A) (hAB:∀v w',A v w'→B v w'):CallOk P f vs w B:=by
 rcases h with ⟨h1,h2⟩ | ⟨v,w',h1,h2⟩
 ·exact .inl ⟨h1,h2.mono fun e w' ⟨v,he,hv⟩=>⟨v,he,hAB v w' hv⟩⟩
 ·exact .inr ⟨v,w',h1,hAB v w' h2⟩
theorem RD.split {cx:Cx α} {v:Value} {p:α} {k:SK} (h:RD C cx v (.pl p k)):∃b,RD C cx v (.pl p (.nil b))∧(b=true→C.len p=0):=by
 cases h with
 | pl0 a c _ _ hl hk=>exact ⟨a.isNone,.pl0 a c p _ hl rfl,fun _=>hl⟩
 | pl b off n c _ _ vs hn hc hb hk hav hcell h1 hrd=>exact ⟨false,.pl b off n c p _ vs hn hc hb rfl hav hcell h1 hrd,by simp⟩
end Go.Eng
namespace Go.Eng
open Go.RowKit
section
variable {α:Type} {P:Program} {C:Pay α} {glob:Nat→Option (List (D α))}
def RDle (C:Pay α) (d d':D α):Prop:=∀cx v,RD C cx v d→RD C cx v d'
theorem RDle.refl (d:D α):RDle C d d:=fun _ _ h=>h
theorem RDle.of {d d':D α} (h:Dle C d d'):RDle C d d':=fun _ _ hr=>hr.le h
inductive RDles (C:Pay α):List (D α)→List (D α)→Prop
 | nil:RDles C [] []
 | cons {d d':D α} {r r':List (D α)} (h:RDle C d d') (hr:RDles C r r'):RDles C (d::r) (d'::r')
theorem RDles.refl:∀l:List (D α),RDles C l l
 | []=>.nil
 | d::r=>.cons (RDle.refl d) (RDles.refl r)
theorem RDles.spec {ds ds':List (D α)} (h:RDles C ds ds'):ds.length=ds'.length∧∀(i:Nat) d,ds'[i]?=some d→∃e,ds[i]?=some e∧RDle C e d:=by
 induction h with
 | nil=>exact ⟨rfl,fun i d h=>by simp at h⟩
 | cons h _ ih =>
  refine ⟨by simp [ih.1],fun i d hd=>?_⟩
  cases i with
  | zero=>simp only [List.getElem?_cons_zero,Option.some.injEq] at hd;subst hd;exact ⟨_,rfl,h⟩
  | succ i=>exact ih.2 i d (by simpa using hd)
theorem RDle.agg {cs ds:List (D α)} (h:RDles C cs ds):RDle C (.agg cs) (.agg ds):=by
 intro cx v hr
 obtain ⟨hl,hg⟩:=h.spec
 cases hr with
 | agg vs _ hs h1 hrd =>
  refine .agg vs ds (hs.trans hl) h1 fun i v c hv hc=>?_
  obtain ⟨e,he,hle⟩:=hg i c hc
  exact hle _ _ (hrd i v e hv he)
theorem SoundAt.pre {f:FuncId} {ds ds':List (D α)} {d:D α} (hle:RDles C ds ds') (h:SoundAt P C glob f ds' d):SoundAt P C glob f ds d:=by
 intro w av vs hg ha hs hr
 obtain ⟨hl,hget⟩:=hle.spec
 refine h w av vs hg ha (hs.trans hl) fun i v c hv hc=>?_
 obtain ⟨e,he,hle⟩:=hget i c hc
 exact hle _ _ (hr i v e hv he)
def isOw:D α→Bool
 | .ow _ _=>true
 | _=>false
theorem SoundAt.post {f:FuncId} {ds:List (D α)} {d d':D α} (hle:RDle C d d') (h:SoundAt P C glob f ds d) (ho:isOw d'=false:=by rfl):SoundAt P C glob f ds d' :=
 fun w av vs hg ha hs hr=>(h w av vs hg ha hs hr).mono fun _ _ ⟨h1,h2,_⟩=>⟨hle _ _ h1,h2,by cases d'<;>first | trivial | simp [isOw] at ho⟩
def tell (g:FuncId) (pat:List (D α)→Option (Bool×D α)) (R:Told α):Told α:=fun f ds=>bif Nat.beq f g then (match pat ds with
 | some r=>some r
 | none=>R f ds) else R f ds
def tell0:Told α:=fun _ _=>none
theorem tell0_ok (X:Ctx α):ToldOk X tell0:=fun f ds b d h=>by simp [tell0] at h
theorem tell_ok {X:Ctx α} {g:FuncId} {pat:List (D α)→Option (Bool×D α)} {R:Told α} (hp:∀ds b d,pat ds=some (b,d)→b=true→SoundAt X.P X.C X.glob g ds d) (hR:ToldOk X R) (hg:Nat.blt g 1000000=true:=by rfl):ToldOk X (tell g pat R):=by
 intro f ds b d h hb
 simp only [tell,Bool.cond_eq_ite] at h
 split at h
 ·rename_i hf
  obtain rfl:=Nat.eq_of_beq_eq_true hf
  split at h
  ·rename_i r hr
   simp only [Option.some.injEq] at h
   subst h
   exact ⟨fun _=>hp _ _ _ hr hb,fun h=>by rw [hg] at h;simp at h⟩
  ·exact hR _ _ _ _ h hb
 ·exact hR _ _ _ _ h hb
def tellM (g:FuncId) (pat:List (D α)→List (D α)→Option (Bool×D α×List (D α))) (R:Told α):Told α:=fun f ds=>bif Nat.beq f (g+1000000) then (match ds with
 | .env os _::args=>(match pat os args with
  | some (b,d,os')=>some (b,.env os' d)
  | none=>R f ds)
 | _=>R f ds) else R f ds
theorem tellM_ok {X:Ctx α} {g:FuncId} {pat:List (D α)→List (D α)→Option (Bool×D α×List (D α))} {R:Told α} (hp:∀os ds b d os',pat os ds=some (b,d,os')→b=true→SoundM X.P X.C X.glob g (decH os) ds d (decH os')) (hR:ToldOk X R):ToldOk X (tellM g pat R):=by
 intro f ds b d h hb
 simp only [tellM,Bool.cond_eq_ite] at h
 split at h
 ·rename_i hf
  obtain rfl:=Nat.eq_of_beq_eq_true hf
  split at h
  ·split at h
   ·rename_i os e args r b' d' os' hr
    simp only [Option.some.injEq,Prod.mk.injEq] at h
    obtain ⟨rfl,rfl⟩:=h
    have hge:Nat.blt (g+1000000) 1000000=false:=by
     cases hb:Nat.blt (g+1000000) 1000000 with
     | false=>rfl
     | true =>
      have:=Nat.le_of_ble_eq_true hb
      omega
    refine ⟨fun h=>by rw [hge] at h;simp at h,fun _ os1 e1 ds1 os2 d2 hq hq2=>?_⟩
    simp only [List.cons.injEq,D.env.injEq] at hq hq2
    obtain ⟨⟨rfl,rfl⟩,rfl⟩:=hq
    obtain ⟨rfl,rfl⟩:=hq2
    rw [Nat.add_sub_cancel]
    exact hp _ _ _ _ _ hr hb
   ·exact hR _ _ _ _ h hb
  ·exact hR _ _ _ _ h hb
 ·exact hR _ _ _ _ h hb
def noL:LK α:=fun _ _=>none
def noTL:LoopsT α:=fun _=>noL
theorem noL_ok (X:Ctx α) (b:Code):LoopOk X noL b:=fun S b r h=>by simp [noL] at h
theorem noTL_ok (X:Ctx α) (F:FuncId→Option Func):TLOk X F noTL:=fun _ _ _ _ _ b _=>noL_ok X b
def slotsAt:List (Nat×D α)→Nat→D α
 | [],_=>.bad
 | (t,d)::r,i=>bif Nat.beq t i then d else slotsAt r i
def mkT (l:List (Nat×D α)):Nat→Nat→List (D α)
 | _,0=>[]
 | i,n+1=>slotsAt l i::mkT l (i+1) n
def mkS (n:Nat) (l:List (Nat×D α)) (hs:Obs α):St α:=⟨mkT l 0 n,hs⟩
def keepOf (l:List Nat) (i:Nat):Bool:=memN l i
theorem mkT_length (l:List (Nat×D α)):∀n i,(mkT l i n).length=n
 | 0,_=>rfl
 | n+1,i=>by simp [mkT,mkT_length l n (i+1)]
theorem mkT_get (l:List (Nat×D α)):∀n i t,t < n→getT (mkT l i n) t=slotsAt l (i+t)
 | 0,_,_,h=>by omega
 | n+1,i,0,_=>rfl
 | n+1,i,t+1,h=>by
  simp only [mkT,getT]
  rw [mkT_get l n (i+1) t (by omega),show i+1+t=i+(t+1) by omega]
theorem mask_mkS {S:St α} {n:Nat} {l:List (Nat×D α)} {hs:Obs α} (hn:S.tm.length=n) (hh:S.hs=hs) (hl:∀x∈l,getT S.tm x.1=x.2):maskS (keepOf (l.map (·.1))) S=mkS n l hs:=by
 obtain ⟨tm,hs'⟩:=S
 simp only at hn hh hl
 subst hh
 have:maskT (keepOf (l.map (·.1))) 0 tm=mkT l 0 n:=by
  refine ext_getT (by rw [maskT_length,mkT_length];exact hn) fun t=>?_
  rw [maskT_get]
  have key:∀l:List (Nat×D α),(∀x∈l,getT tm x.1=x.2)→slotsAt l t=if keepOf (l.map (·.1)) t=true then getT tm t else .bad:=by
   intro l
   induction l with
   | nil=>intro _;simp [slotsAt,keepOf,memN]
   | cons x r ih =>
    intro h
    obtain ⟨s,d⟩:=x
    simp only [slotsAt,keepOf,List.map_cons,memN]
    cases hb:Nat.beq s t with
    | true =>
     obtain rfl:=Nat.eq_of_beq_eq_true hb
     have:=h (s,d) List.mem_cons_self
     simp only at this
     simp [this]
    | false =>
     simp only [cond_false,Bool.false_or]
     exact ih fun x hx=>h x (List.mem_cons_of_mem _ hx)
  rcases Nat.lt_or_ge t n with ht | ht
  ·rw [mkT_get l n 0 t ht,Nat.zero_add]
   exact (key l hl).symm
  ·rw [getT_out tm t (by omega),getT_out (mkT l 0 n) t (by rw [mkT_length];exact ht)]
   split<;>rfl
 simp only [maskS,mkS,this]
section
variable {X:Ctx α}
theorem loop_search {body:Code} {Sf:Nat→St α} {n:Nat} {p:Nat→Bool} {e1 e2:Ex} {S1 S2:St α} (h1:e1≠.normal) (h2:e2≠.normal)
  (step:∀i,i < n→p i=true→Goes X body (Sf i) .normal (Sf (i+1))) (stop:∀i,i < n→p i=false→Goes X body (Sf i) e2 S2) (last:Goes X body (Sf n) e1 S1) :
  Goes X (.loop body) (Sf 0) (pickR (.ite ((List.range n).all p) (.leaf e1 S1) (.leaf e2 S2))).1 (pickR (.ite ((List.range n).all p) (.leaf e1 S1) (.leaf e2 S2))).2:=by
 cases hall:(List.range n).all p with
 | true =>
  simp only [List.all_eq_true,List.mem_range] at hall
  exact loop_goes h1 n Sf (fun i hi=>step i hi (hall i hi)) last
 | false =>
  have:∃m,m < n∧p m=false∧∀i,i < m→p i=true:=by
   clear step stop last
   induction n with
   | zero=>simp at hall
   | succ n ih =>
    rw [List.range_succ,List.all_append,Bool.and_eq_false_iff] at hall
    cases hn:(List.range n).all p with
    | false =>
     obtain ⟨m,h1,h2,h3⟩:=ih hn
     exact ⟨m,by omega,h2,h3⟩
    | true =>
     rw [hn] at hall
     simp only [Bool.true_eq_false,List.all_cons,List.all_nil,Bool.and_true,false_or] at hall
     simp only [List.all_eq_true,List.mem_range] at hn
     exact ⟨n,by omega,hall,hn⟩
  obtain ⟨m,hm,h3,h4⟩:=this
  exact loop_goes h2 m Sf (fun i hi=>step i (by omega) (h4 i hi)) (stop m hm h3)
def ff (p:Nat→Bool):Nat→Nat
 | 0=>0
 | n+1=>bif p 0 then ff (fun i=>p (i+1)) n+1 else 0
theorem ff_spec:∀(n:Nat) (p:Nat→Bool),(ff p n=n∧∀i,i < n→p i=true)∨(ff p n < n∧p (ff p n)=false∧∀i,i < ff p n→p i=true)
 | 0,p=>.inl ⟨rfl,fun i h=>by omega⟩
 | n+1,p=>by
  cases h0:p 0 with
  | false=>exact .inr ⟨by simp [ff,h0],by simp [ff,h0],fun i h=>by simp [ff,h0] at h⟩
  | true =>
   have e:ff p (n+1)=ff (fun i=>p (i+1)) n+1:=by simp [ff,h0]
   rw [e]
   rcases ff_spec n (fun i=>p (i+1)) with ⟨h1,h2⟩ | ⟨h1,h2,h3⟩
   ·refine .inl ⟨by omega,fun i hi=>?_⟩
    cases i with
    | zero=>exact h0
    | succ i=>exact h2 i (by omega)
   ·refine .inr ⟨by omega,h2,fun i hi=>?_⟩
    cases i with
    | zero=>exact h0
    | succ i=>exact h3 i (by omega)
theorem loop_all {body:Code} {Sf:Nat→St α} {n:Nat} {e1:Ex} {S1:St α} (h1:e1≠.normal)
  (step:∀i,i < n→Goes X body (Sf i) .normal (Sf (i+1))) (last:Goes X body (Sf n) e1 S1):Goes X (.loop body) (Sf 0) (pickR (.leaf e1 S1)).1 (pickR (.leaf e1 S1)).2 :=
 loop_goes h1 n Sf step last
theorem loop_until {body:Code} {Sf:Nat→St α} {n:Nat} {p:Nat→Bool} {e:Ex} {S2:Nat→St α} (h1:e≠.normal)
  (step:∀i,i < n→p i=true→Goes X body (Sf i) .normal (Sf (i+1))) (stop:∀i,i≤n→(i < n→p i=false)→Goes X body (Sf i) e (S2 i)) :
  Goes X (.loop body) (Sf 0) (pickR (.leaf e (S2 (ff p n)))).1 (pickR (.leaf e (S2 (ff p n)))).2:=by
 simp only [pickR]
 rcases ff_spec n p with ⟨h3,h4⟩ | ⟨h3,h4,h5⟩
 ·rw [h3]
  exact loop_goes h1 n Sf (fun i hi=>step i hi (h4 i hi)) (stop n (Nat.le_refl _) fun h=>by omega)
 ·exact loop_goes h1 (ff p n) Sf (fun i hi=>step i (by omega) (h5 i hi)) (stop _ (by omega) fun _=>h4)
def seenS (n:Nat) (ts:List Nat) (S:St α):Option (List (D α)×Obs α):=bif Nat.beq S.tm.length n then some (ts.map (getT S.tm),S.hs) else none
theorem zip_fst:∀(ts:List Nat) (ds:List (D α)),ts.length=ds.length→(ts.zip ds).map (·.1)=ts
 | [],_,_=>rfl
 | t::r,[],h=>by simp at h
 | t::r,d::s,h=>by simp only [List.zip_cons_cons,List.map_cons];rw [zip_fst r s (by simpa using h)]
theorem seenS_mask {n:Nat} {ts:List Nat} {S:St α} {ds:List (D α)} {hs:Obs α} (h:seenS n ts S=some (ds,hs)):maskS (keepOf ts) S=mkS n (ts.zip ds) hs:=by
 unfold seenS at h
 cases hb:Nat.beq S.tm.length n with
 | false=>rw [hb] at h;simp at h
 | true =>
  rw [hb] at h
  simp only [cond_true,Option.some.injEq,Prod.mk.injEq] at h
  obtain ⟨rfl,rfl⟩:=h
  have e:=mask_mkS (S:=S) (n:=n) (l:=ts.zip (ts.map (getT S.tm))) (hs:=S.hs) (Nat.eq_of_beq_eq_true hb) rfl (by
   intro x hx
   have:∀(ts:List Nat) x,x∈ts.zip (ts.map (getT S.tm))→getT S.tm x.1=x.2:=by
    intro ts
    induction ts with
    | nil=>intro x hx;simp at hx
    | cons t r ih =>
     intro x hx
     simp only [List.map_cons,List.zip_cons_cons,List.mem_cons] at hx
     rcases hx with rfl | hx
     ·rfl
     ·exact ih x hx
   exact this ts x hx)
  rw [zip_fst ts _ (by simp)] at e
  exact e
def atL (id:Nat) (LS:St α→Option (Bool×LR α)) (L:LK α):LK α:=fun rid S=>bif Nat.beq rid id then LS S else L rid S
def SOk (X:Ctx α) (body:Code) (LS:St α→Option (Bool×LR α)):Prop:=∀S b r,LS S=some (b,r)→b=true→Goes X (.loop body) S (pickR r).1 (pickR r).2
theorem atL_ok {id:Nat} {LS:St α→Option (Bool×LR α)} {L:LK α} {body:Code} (h1:firstId body=id→SOk X body LS) (h2:firstId body≠id→LoopOk X L body):LoopOk X (atL id LS L) body:=by
 intro S b r h hb
 simp only [atL] at h
 cases hid:Nat.beq (firstId body) id with
 | true=>rw [hid] at h;exact h1 (Nat.eq_of_beq_eq_true hid) S b r h hb
 | false =>
  rw [hid] at h
  exact h2 (fun e=>by rw [e,Nat.beq_refl] at hid;simp at hid) S b r h hb
end
def Room0 (C:Pay α):D α→Prop
 | .int k n=>inR k n=true
 | .str l=>l.length≤big
 | .pl p _=>C.len p * C.bys p≤big
 | _=>True
def Room (C:Pay α):D α→Prop
 | .agg cs=>∀c∈cs,Room0 C c
 | d=>Room0 C d
theorem RD.room0 {C:Pay α} {cx:Cx α} {v:Value} {d:D α} (h:RD C cx v d):Room0 C d:=by
 cases h with
 | int k n h=>exact h
 | str s l h hl=>exact hl
 | pl0 a c p k hl hk=>show C.len p * C.bys p≤big;rw [hl];simp
 | pl b off n c p k vs hn hc hb hk hav hcell h1 hrd=>show C.len p * C.bys p≤big;rw [←hn];exact hb
 | _=>trivial
theorem RD.rooms {C:Pay α} {cx:Cx α} {v:Value} {d:D α} (h:RD C cx v d):Room C d:=by
 cases d with
 | agg cs =>
  intro c hc
  cases h with
  | agg vs _ hs h1 hrd =>
   obtain ⟨i,hi⟩:=List.mem_iff_getElem?.1 hc
   have hlt:i < cs.length:=(List.getElem?_eq_some_iff.1 hi).1
   exact (hrd i _ c (Array.getElem?_eq_getElem (by omega)) hi).room0
 | _=>exact h.room0
theorem SoundAt.rooms {P:Program} {C:Pay α} {glob:Nat→Option (List (D α))} {f:FuncId} {ds:List (D α)} {d:D α} (h:(∀d∈ds,Room C d)→SoundAt P C glob f ds d):SoundAt P C glob f ds d:=by
 intro w av vs hg ha hs hr
 refine h (fun d hd=>?_) w av vs hg ha hs hr
 obtain ⟨i,hi⟩:=List.mem_iff_getElem?.1 hd
 have hlt:i < ds.length:=(List.getElem?_eq_some_iff.1 hi).1
 exact (hr i _ d (Array.getElem?_eq_getElem (by omega)) hi).rooms
end
section
variable {emp:TypeId→Option Ty}
end
end Go.Eng
namespace Go.Eng
open Go.RowKit Go.ChangeShapes Go.WideShapes
section
variable {H:Type} {enc:TypeId×Value→H} {P:Program} {W:World} {emp:TypeId→Option Ty}
def w0cx (W:World):Cx Pl:=cx0 W (fun _=>False)
def RdCs (emp:TypeId→Option Ty) (W:World) (cs:List Value) (ds:List (D Pl)):Prop :=
 cs.length=ds.length∧(∀v∈cs,v.oneCell'=true)∧∀(i:Nat) v d,cs[i]?=some v→ds[i]?=some d→RD (plC emp) (w0cx W) v d
def Wt {H:Type} (P:Program) (t:TypeId) (d:DataW H):Prop:=(d.weights P t).all (fun n=>decide (n≤reachBytes))=true
def RdAt (enc:TypeId×Value→H) (P:Program) (emp:TypeId→Option Ty) (W:World) (fuel:Nat) (t:TypeId) (ok:List (D Pl)→Prop):Prop :=
 ∀cs d ps,DataW.trod enc P W 0 (fun _=>true) true fuel t cs=some (d,ps)→Wt P t d→∃ds,ok ds∧RdCs emp W cs ds
theorem RdAt.mono {n:Nat} {t:TypeId} {ok ok':List (D Pl)→Prop} (h:RdAt enc P emp W n t ok) (hk:∀ds,ok ds→ok' ds):RdAt enc P emp W n t ok' :=
 fun cs d ps h1 h2=>let ⟨ds,h3,h4⟩:=h cs d ps h1 h2;⟨ds,hk ds h3,h4⟩
theorem RdCs.one {v:Value} {d:D Pl} (h1:v.oneCell'=true) (h:RD (plC emp) (w0cx W) v d):RdCs emp W [v] [d] :=
 ⟨rfl,fun u hu=>by simp only [List.mem_singleton] at hu;subst hu;exact h1,fun i u e hu he=>by
  cases i with
  | zero=>simp only [List.getElem?_cons_zero,Option.some.injEq] at hu he;subst hu he;exact h
  | succ i=>simp at hu⟩
theorem RdCs.nil:RdCs emp W [] []:=⟨rfl,fun v hv=>by simp at hv,fun i v d h=>by simp at h⟩
theorem RdCs.append {as bs:List Value} {ds es:List (D Pl)} (h:RdCs emp W as ds) (k:RdCs emp W bs es):RdCs emp W (as++bs) (ds++es):=by
 refine ⟨by simp [h.1,k.1],fun v hv=>?_,fun i v d hv hd=>?_⟩
 ·rcases List.mem_append.1 hv with h' | h'
  ·exact h.2.1 v h'
  ·exact k.2.1 v h'
 ·rw [List.getElem?_append] at hv hd
  rw [←h.1] at hd
  split at hv
  ·rename_i hlt;rw [if_pos hlt] at hd;exact h.2.2 i v d hv hd
  ·rename_i hlt;rw [if_neg hlt] at hd;exact k.2.2 _ v d hv hd
theorem inR_of_wf {k:IntKind} {n:Int} (h:(Lit.int k n).wf=true):inR k n=true:=by
 simp only [Lit.wf,Bool.and_eq_true,decide_eq_true_eq] at h
 unfold inR
 simp only [Bool.and_eq_true,decide_eq_true_eq]
 have h1:=h.1
 have h2:=h.2
 cases k<;>simp_all [lo,hi,IntKind.min,IntKind.max,IntKind.bits,IntKind.signed]
theorem rd_int {t:TypeId} {k:IntKind} (hu:P.underlying t=some (.int k)) (n:Nat):RdAt enc P emp W n t fun ds=>∃i,inR k i=true∧ds=[.int k i]:=by
 intro cs d ps h hw
 obtain ⟨i,rfl,_,hwf⟩:=DataW.trod_int hu h
 exact ⟨[.int k i],⟨i,inR_of_wf hwf,rfl⟩,RdCs.one rfl (.int k i (inR_of_wf hwf))⟩
theorem rd_str {t:TypeId} (hu:P.underlying t=some .string) (n:Nat):RdAt enc P emp W n t fun ds=>∃s:Str,s.length≤reachBytes∧ds=[.str s]:=by
 intro cs d ps h hw
 obtain ⟨s,rfl,hd,_⟩:=DataW.trod_string hu h
 simp only [Prod.mk.injEq] at hd
 obtain ⟨rfl,_⟩:=hd
 have hl:s.data.toList.length≤reachBytes:=by simpa [Wt,DataW.weights] using hw
 exact ⟨[.str s.data.toList],⟨_,hl,rfl⟩,RdCs.one rfl (.str s _ rfl (Nat.le_trans hl (by decide)))⟩
inductive Flds (enc:TypeId×Value→H) (P:Program) (emp:TypeId→Option Ty) (W:World) (n:Nat):Nat→List Field→Nat→(List (D Pl)→Prop)→Prop
 | nil (off:Nat):Flds enc P emp W n off [] off (fun ds=>ds=[])
 | cons (f:Field) (r:List Field) (off tot:Nat) (ok okr:List (D Pl)→Prop) (ho:f.offset=off) (h:RdAt enc P emp W n f.type ok) (hr:Flds enc P emp W n (off+P.cellsOf f.type) r tot okr) :
   Flds enc P emp W n off (f::r) tot (fun ds=>∃a b,ds=a++b∧ok a∧okr b)
theorem Flds.rd {n off tot:Nat} {fs:List Field} {ok:List (D Pl)→Prop} (h:Flds enc P emp W n off fs tot ok):∀(cs:List Value) (xs:List (DataW H×List MemPlace)),cs.length=tot→xs.length=fs.length →
  (∀(i:Nat) f,fs[i]?=some f→DataW.trod enc P W 0 (fun _=>true) true n f.type ((cs.drop f.offset).take (P.cellsOf f.type))=xs[i]?) →
  (DataW.weightsEach P (fs.map (·.type)) (xs.map (·.1))).all (fun n=>decide (n≤reachBytes))=true→∃ds,ok ds∧RdCs emp W (cs.drop off) ds:=by
 induction h with
 | nil off =>
  intro cs xs h1 h2 h3 h4
  refine ⟨[],rfl,?_⟩
  rw [←h1]
  simp only [List.drop_length]
  exact RdCs.nil
 | cons f r off tot ok okr ho h hr ih =>
  intro cs xs h1 h2 h3 h4
  obtain ⟨x,xs,rfl⟩:∃x ys,xs=x::ys:=by
   cases xs with
   | nil=>simp at h2
   | cons x ys=>exact ⟨x,ys,rfl⟩
  simp only [List.map_cons,DataW.weightsEach,List.all_append,Bool.and_eq_true] at h4
  have h0:=h3 0 f rfl
  simp only [List.getElem?_cons_zero] at h0
  obtain ⟨a,ha,hra⟩:=h _ x.1 x.2 h0 h4.1
  obtain ⟨b,hb,hrb⟩:=ih cs xs h1 (by simpa using h2) (fun i g hg=>by simpa using h3 (i+1) g (by simpa using hg)) h4.2
  refine ⟨a++b,⟨a,b,rfl,ha,hb⟩,?_⟩
  have:cs.drop off=(cs.drop f.offset).take (P.cellsOf f.type)++cs.drop (off+P.cellsOf f.type):=by
   rw [ho,←List.drop_drop,List.take_append_drop]
  rw [this]
  exact hra.append hrb
theorem arg_cells {t:TypeId} {v:Value} {d:DataW H} {p:List MemPlace} {ok:List (D Pl)→Prop} (h:DataW.Trod enc P W 0 (fun _=>true) true t v d p) (hw:Wt P t d) (hr:∀n,RdAt enc P emp W n t ok) :
  ∃ds,ok ds∧RdCs emp W v.cells.toList ds:=by
 obtain ⟨n,hn⟩:=h
 exact hr n _ _ _ hn hw
theorem arg_one {t:TypeId} {v:Value} {r:Reach} {base:Nat} {d:D Pl} (hs:shapeT P t=1) (hv:Value.okWide P W r base t v) (h:RdCs emp W v.cells.toList [d]):RD (plC emp) (w0cx W) v d:=by
 have:v.cells=#[v]:=by
  cases v with
  | agg cs =>
   exfalso
   unfold shapeT at hs
   unfold Value.okWide at hv
   split at hv
   ·rename_i h';rw [h'] at hs;simp at hs
   ·rename_i h';rw [h'] at hs;simp at hs
   ·unfold Cell.okWide at hv
    split at hv<;>rename_i hx<;>first | (simp at hx;done) | skip
    all_goals (try (unfold Cell.ok at hv;split at hv<;>rename_i hy<;>simp_all))
  | _=>rfl
 rw [this] at h
 exact h.2.2 0 v d rfl rfl
end
end Go.Eng
namespace Go.Eng
open Go.RowKit Go.ChangeShapes Go.WideShapes
section
variable {P:Program} {W:World} {emp:TypeId→Option Ty}
theorem laid_mem:∀(l:List (String×DataW Unit)) (ps:List MemPlace),DataW.LaidVars P W l ps→∀n d,(n,d)∈l →
  ∃g t cs fuel p,P.globalNamed n=some g∧(P.globals[g]?).map (·.type)=some t∧W.var? P n=some cs∧DataW.trod (fun _=>()) P W 0 (fun _=>true) false fuel t cs.toList=some (d,p)
 | [],_,_,n,d,h=>by simp at h
 | (n',d')::r,ps,hl,n,d,h=>by
  obtain ⟨g,t,cs,fuel,p,q,h1,h2,h3,h4,h5,_⟩:=hl
  rcases List.mem_cons.1 h with h | h
  ·simp only [Prod.mk.injEq] at h
   obtain ⟨rfl,rfl⟩:=h
   exact ⟨g,t,cs,fuel,p,h1,h2,h3,h4⟩
  ·exact laid_mem r q h5 n d h
theorem var_size {n:String} {g:Nat} {cs:Array Value} {k:Nat} (hg:P.globalNamed n=some g) (hv:W.var? P n=some cs) (hk:cs.size=k):GSz W g k:=by
 unfold World.var? at hv
 rw [hg] at hv
 simp only [Option.bind_some] at hv
 split at hv
 ·rename_i cs' T fz hh
  simp only [Option.some.injEq] at hv
  subst hv
  exact ⟨cs',T,fz,hh,hk⟩
 ·simp at hv
theorem glob_ifa {l:List (String×DataW Unit)} (hp:(l.all fun x=>x.2.handleName?.isNone)=true) (hL:laidMetH P l W) {n tn:String} {d:DataW Unit} (hm:(n,DataW.iface tn d)∈l)
  {g:Nat} (hg:P.globalNamed n=some g) {t:TypeId} (ht:(P.globals[g]?).map (·.type)=some t) {ms:Array (String×TypeId)} (hu:P.underlying t=some (.interface ms)) (av:Nat→Prop) (hav:¬ av g) :
  RD (plC emp) (cx0 W av) (.pointer (some ⟨g,0,none⟩)) (.ref [.ifa])∧GSz W g 1:=by
 rw [MakeChecks.laidMetH_plain _ _ _ hp] at hL
 obtain ⟨ps,hlv,_,_⟩:=hL
 obtain ⟨g',t',cs,fuel,p,e1,e2,e3,e4⟩:=laid_mem l ps hlv n _ hm
 obtain rfl:=Option.some.inj (hg.symm.trans e1)
 obtain rfl:=Option.some.inj (ht.symm.trans e2)
 have hcs:∃u v,cs.toList=[.iface u v]:=by
  generalize cs.toList=l at e4
  cases fuel with
  | zero=>simp [DataW.trod] at e4
  | succ fuel =>
   match l with
   | []=>simp [DataW.trod,hu] at e4
   | v::w::r=>simp [DataW.trod,hu] at e4
   | [v] =>
    cases v
    case iface u v=>exact ⟨u,v,rfl⟩
    all_goals simp [DataW.trod,hu] at e4
 obtain ⟨u,v,hcs⟩:=hcs
 have hcell:W.cell? ⟨g,0,none⟩=some (.iface u v):=by
  rw [World.var?_cell e1 e3 0,←Array.getElem?_toList,hcs];rfl
 refine ⟨.ref g 0 _ (fun _=>.iface u v) (fun _=>hav) (fun i c hc=>?_) (fun i c hc=>rfl) fun i c hc=>?_,var_size e1 e3 (by rw [←Array.length_toList,hcs];rfl)⟩
 ·match i,hc with
  | 0,_=>exact hcell
  | i+1,hc=>simp at hc
 ·match i,hc with
  | 0,hc=>simp only [List.getElem?_cons_zero,Option.some.injEq] at hc;subst hc;exact .ifa u v
  | i+1,hc=>simp at hc
variable {H:Type} {enc:TypeId×Value→H}
theorem trodAll_stays (hl:laidOutB P=true) {W':World} {sp:Nat→Bool}:∀(ts:List TypeId) (vs:List Value) (ds:List (DataW H)) (ps:List MemPlace),(∀t∈ts,P.readableRec t=true∧t < P.types.size) →
  DataW.TrodAll enc P W 0 (fun _=>true) true ts vs ds ps→(∀p∈ps,W.sameAt W' p)→(∀p∈ps,sp p.block=true)→DataW.TrodAll enc P W' 0 sp true ts vs ds ps
 | [],vs,ds,ps,_,h,_,_=>by
  obtain ⟨rfl,rfl,rfl⟩:=trodAll_nil h
  exact trodAll_mk0
 | t::ts,vs,ds,ps,hr,h,h1,h2=>by
  obtain ⟨v,vs',d,ds',p,q,rfl,rfl,rfl,hd,hrest⟩:=trodAll_cons h
  have ht:=hr t List.mem_cons_self
  exact ⟨p,q,WideElems.Trod_stays hl ht.1 ht.2 hd (fun x hx=>h1 x (List.mem_append_left _ hx)) (fun x hx=>h2 x (List.mem_append_left _ hx)),
   trodAll_stays hl ts vs' ds' q (fun t ht=>hr t (List.mem_cons_of_mem _ ht)) hrest (fun x hx=>h1 x (List.mem_append_right _ hx)) (fun x hx=>h2 x (List.mem_append_right _ hx)),rfl⟩
theorem close_true {fn:Func} {s:ChangeSpec} {tb:TypeId} (hl:laidOutB P=true) (hr:∀t∈fn.params.toList,P.readableRec t=true∧t < P.types.size) (hres:fn.resultTypes=#[tb]) (htb:P.underlying tb=some .bool)
  {args:Array Value} {ds gs:List (DataW H)} {before:List MemPlace} (hW:DataW.Whole enc P fn.params.toList s.vars false W args.toList ds gs before) (hv:s.vars=[])
  (hfn:(s.fn H (ds++gs))={ results:=[.lit (.bool true)],args:=ds }) {W':World} {δ:Bool} (hb:BelowD δ W.heap.size W W') :
  s.post enc P fn false true false false W args (.bool true) W':=by
 have hW':=hW
 obtain ⟨p,q,hA,hV,hpq,hfz,hnd⟩:=hW'
 rw [hv] at hV
 obtain ⟨rfl,rfl⟩:=trodVars_none hV
 rw [List.append_nil] at hpq
 subst hpq
 have hlt:∀x∈before,x.block < W.heap.size:=fun x hx=>by simpa using hW.lt x hx
 refine ⟨ds,[],before,[],before,[],hW,?_,?_,?_,hb.frame _,fun h=>by cases h⟩
 ·rw [hfn,hres]
  exact trodAll_mk1 (shut_bool htb _)
 ·rw [hfn]
  exact trodAll_stays hl _ _ _ _ hr hA (fun x hx=>hb.same (hlt x hx)) (fun x hx=>by simpa using hlt x hx)
 ·rw [hfn,hv]
  exact rfl
theorem calls_of {f:FuncId} {vs:Array Value} {w:World} {R:Value→World→Prop} {fn:Func} (hf:P.funcs[f]?=some fn) (hn:(fn.name=="runtime.NumGoroutine")=false) (hb:fn.body.isNone=false) (h:CallOk P f vs w R) :
  Calls P f vs w fun e w'=>∃v,e=.returned v∧R v w':=by
 have hrun:(callFunc f vs).run P w=.ok (.enter f vs) w:=by
  have hn':¬ fn.name="runtime.NumGoroutine" := by simpa using hn
  have hb':¬ fn.body=none:=fun h=>by rw [h] at hb;simp at hb
  simp [callFunc,hf,hn',hb']
 rcases h with ⟨_,h⟩ | ⟨v,w',h,_⟩
 ·exact h
 ·rw [hrun] at h
  simp at h
end
end Go.Eng
