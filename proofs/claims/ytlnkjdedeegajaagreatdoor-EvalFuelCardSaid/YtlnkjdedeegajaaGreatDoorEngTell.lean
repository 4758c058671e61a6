/-
  THE ENGINE, PART X: CONTRACTS TURNED: less is said; arguments split.
-/
import Derived.Test.YtlnkjdedeegajaaGreatDoorEngW
namespace Go.Eng
open Go.RowKit
variable {α:Type} {P:Program} {C:Pay α} {glob:Nat→Option (List (D α))}
theorem CallOk.mono {f:FuncId} {vs:Array Value} {w:World} {A B:Value→World→Prop} (h:CallOk P f vs w A) (hAB:∀v w',A v w'→B v w'):CallOk P f vs w B:=by
  rcases h with ⟨h1,h2⟩ | ⟨v,w',h1,h2⟩
  · exact .inl ⟨h1,h2.mono fun e w' ⟨v,he,hv⟩=>⟨v,he,hAB v w' hv⟩⟩
  · exact .inr ⟨v,w',h1,hAB v w' h2⟩
theorem SoundAt.weaken {f:FuncId} {ds:List (D α)} {d d':D α} (h:SoundAt P C glob f ds d) (hl:Dle C d d'):SoundAt P C glob f ds d' :=
  fun w av vs hg ha hs hr=>(h w av vs hg ha hs hr).mono fun _ _ ⟨h1,h2,h3⟩=>⟨h1.le hl,h2,by cases hl<;>first | exact h3 | trivial | (rename_i hv;exact absurd h1 (hv _ _))⟩
theorem RD.split {cx:Cx α} {v:Value} {p:α} {k:SK} (h:RD C cx v (.pl p k)):∃b,RD C cx v (.pl p (.nil b))∧(b=true→C.len p=0):=by
  cases h with
  | pl0 a c _ _ hl hk=>exact ⟨a.isNone,.pl0 a c p _ hl rfl,fun _=>hl⟩
  | pl b off n c _ _ vs hn hc hb hk hav hcell h1 hrd=>exact ⟨false,.pl b off n c p _ vs hn hc hb rfl hav hcell h1 hrd,by simp⟩
theorem SoundAt.nilOr {f:FuncId} {pre post:List (D α)} {p:α} {k:SK} {d:D α} (h:∀b,(b=true→C.len p=0)→SoundAt P C glob f (pre++.pl p (.nil b)::post) d) :
    SoundAt P C glob f (pre++.pl p k::post) d:=by
  intro w av vs hg ha hs hr
  have hlt:pre.length < vs.size:=by rw [hs];simp
  have hi:(pre++.pl p k::post)[pre.length]?=some (.pl p k):=by simp
  obtain ⟨b,hb,hl⟩:=RD.split (hr pre.length vs[pre.length] _ (by simp [hlt]) hi)
  refine h b hl w av vs hg ha (by rw [hs];simp) fun i v c hv hc=>?_
  by_cases he:i=pre.length
  · subst he
    have:v=vs[pre.length]:=by simpa [hlt] using hv.symm
    subst this
    simp only [List.getElem?_append_right (Nat.le_refl _),Nat.sub_self,List.getElem?_cons_zero,Option.some.injEq] at hc
    subst hc
    exact hb
  · refine hr i v c hv ?_
    rw [List.getElem?_append] at hc ⊢
    split
    · rename_i hlt';rw [if_pos hlt'] at hc;exact hc
    · rename_i hlt'
      rw [if_neg hlt'] at hc
      obtain ⟨m,hm⟩:=Nat.exists_eq_add_of_lt (show 0 < i - pre.length by omega)
      have e:i - pre.length=m+1:=by omega
      rw [e] at hc ⊢
      simpa using hc
theorem RD.room {cx:Cx α} {v:Value} {p:α} {k:SK} (h:RD C cx v (.pl p k)):C.len p * C.bys p≤big:=by
  cases h with
  | pl0 a c _ _ hl hk=>rw [hl];simp
  | pl b off n c _ _ vs hn hc hb hk hav hcell h1 hrd=>rw [←hn];exact hb
theorem SoundAt.room {f:FuncId} {pre post:List (D α)} {p:α} {k:SK} {d:D α} (h:C.len p * C.bys p≤big→SoundAt P C glob f (pre++.pl p k::post) d) :
    SoundAt P C glob f (pre++.pl p k::post) d:=by
  intro w av vs hg ha hs hr
  have hlt:pre.length < vs.size:=by rw [hs];simp
  have hi:(pre++.pl p k::post)[pre.length]?=some (.pl p k):=by simp
  exact h (RD.room (hr pre.length vs[pre.length] _ (by simp [hlt]) hi)) w av vs hg ha hs hr
end Go.Eng
namespace Go.Eng
open Go.RowKit
section
variable {α:Type} {P:Program} {C:Pay α} {glob:Nat→Option (List (D α))}
def RDle (C:Pay α) (d d':D α):Prop:=∀cx v,RD C cx v d→RD C cx v d'
theorem RDle.refl (d:D α):RDle C d d:=fun _ _ h=>h
theorem RDle.of {d d':D α} (h:Dle C d d'):RDle C d d':=fun _ _ hr=>hr.le h
inductive RDles (C:Pay α):List (D α)→List (D α)→Prop
  | nil:RDles C [] []
  | cons {d d':D α} {r r':List (D α)} (h:RDle C d d') (hr:RDles C r r'):RDles C (d::r) (d'::r')
theorem RDles.refl:∀l:List (D α),RDles C l l
  | []=>.nil
  | d::r=>.cons (RDle.refl d) (RDles.refl r)
theorem RDles.spec {ds ds':List (D α)} (h:RDles C ds ds'):ds.length=ds'.length∧∀(i:Nat) d,ds'[i]?=some d→∃e,ds[i]?=some e∧RDle C e d:=by
  induction h with
  | nil=>exact ⟨rfl,fun i d h=>by simp at h⟩
  | cons h _ ih =>
    refine ⟨by simp [ih.1],fun i d hd=>?_⟩
    cases i with
    | zero=>simp only [List.getElem?_cons_zero,Option.some.injEq] at hd;subst hd;exact ⟨_,rfl,h⟩
    | succ i=>exact ih.2 i d (by simpa using hd)
theorem RDle.agg {cs ds:List (D α)} (h:RDles C cs ds):RDle C (.agg cs) (.agg ds):=by
  intro cx v hr
  obtain ⟨hl,hg⟩:=h.spec
  cases hr with
  | agg vs _ hs h1 hrd =>
    refine .agg vs ds (hs.trans hl) h1 fun i v c hv hc=>?_
    obtain ⟨e,he,hle⟩:=hg i c hc
    exact hle _ _ (hrd i v e hv he)
theorem SoundAt.pre {f:FuncId} {ds ds':List (D α)} {d:D α} (hle:RDles C ds ds') (h:SoundAt P C glob f ds' d):SoundAt P C glob f ds d:=by
  intro w av vs hg ha hs hr
  obtain ⟨hl,hget⟩:=hle.spec
  refine h w av vs hg ha (hs.trans hl) fun i v c hv hc=>?_
  obtain ⟨e,he,hle⟩:=hget i c hc
  exact hle _ _ (hr i v e hv he)
def isOw:D α→Bool
  | .ow _ _=>true
  | _=>false
theorem SoundAt.post {f:FuncId} {ds:List (D α)} {d d':D α} (hle:RDle C d d') (h:SoundAt P C glob f ds d) (ho:isOw d'=false:=by rfl):SoundAt P C glob f ds d' :=
  fun w av vs hg ha hs hr=>(h w av vs hg ha hs hr).mono fun _ _ ⟨h1,h2,_⟩=>⟨hle _ _ h1,h2,by cases d'<;>first | trivial | simp [isOw] at ho⟩
def tell (g:FuncId) (pat:List (D α)→Option (Bool×D α)) (R:Told α):Told α:=fun f ds=>bif Nat.beq f g then (match pat ds with
  | some r=>some r
  | none=>R f ds) else R f ds
def tell0:Told α:=fun _ _=>none
theorem tell0_ok (X:Ctx α):ToldOk X tell0:=fun f ds b d h=>by simp [tell0] at h
theorem tell_ok {X:Ctx α} {g:FuncId} {pat:List (D α)→Option (Bool×D α)} {R:Told α} (hp:∀ds b d,pat ds=some (b,d)→b=true→SoundAt X.P X.C X.glob g ds d) (hR:ToldOk X R) (hg:Nat.blt g 1000000=true:=by rfl):ToldOk X (tell g pat R):=by
  intro f ds b d h hb
  simp only [tell,Bool.cond_eq_ite] at h
  split at h
  · rename_i hf
    obtain rfl:=Nat.eq_of_beq_eq_true hf
    split at h
    · rename_i r hr
      simp only [Option.some.injEq] at h
      subst h
      exact ⟨fun _=>hp _ _ _ hr hb,fun h=>by rw [hg] at h;simp at h⟩
    · exact hR _ _ _ _ h hb
  · exact hR _ _ _ _ h hb
def tellM (g:FuncId) (pat:List (D α)→List (D α)→Option (Bool×D α×List (D α))) (R:Told α):Told α:=fun f ds=>bif Nat.beq f (g+1000000) then (match ds with
  | .env os _::args=>(match pat os args with
    | some (b,d,os')=>some (b,.env os' d)
    | none=>R f ds)
  | _=>R f ds) else R f ds
theorem tellM_ok {X:Ctx α} {g:FuncId} {pat:List (D α)→List (D α)→Option (Bool×D α×List (D α))} {R:Told α} (hp:∀os ds b d os',pat os ds=some (b,d,os')→b=true→SoundM X.P X.C X.glob g (decH os) ds d (decH os')) (hR:ToldOk X R):ToldOk X (tellM g pat R):=by
  intro f ds b d h hb
  simp only [tellM,Bool.cond_eq_ite] at h
  split at h
  · rename_i hf
    obtain rfl:=Nat.eq_of_beq_eq_true hf
    split at h
    · split at h
      · rename_i os e args r b' d' os' hr
        simp only [Option.some.injEq,Prod.mk.injEq] at h
        obtain ⟨rfl,rfl⟩:=h
        have hge:Nat.blt (g+1000000) 1000000=false:=by
          cases hb:Nat.blt (g+1000000) 1000000 with
          | false=>rfl
          | true =>
            have:=Nat.le_of_ble_eq_true hb
            omega
        refine ⟨fun h=>by rw [hge] at h;simp at h,fun _ os1 e1 ds1 os2 d2 hq hq2=>?_⟩
        simp only [List.cons.injEq,D.env.injEq] at hq hq2
        obtain ⟨⟨rfl,rfl⟩,rfl⟩:=hq
        obtain ⟨rfl,rfl⟩:=hq2
        rw [Nat.add_sub_cancel]
        exact hp _ _ _ _ _ hr hb
      · exact hR _ _ _ _ h hb
    · exact hR _ _ _ _ h hb
  · exact hR _ _ _ _ h hb
def noL:LK α:=fun _ _=>none
def noTL:LoopsT α:=fun _=>noL
def tellL (g:FuncId) (L:LK α) (TL:LoopsT α):LoopsT α:=fun f=>bif Nat.beq f g then L else TL f
theorem noL_ok (X:Ctx α) (b:Code):LoopOk X noL b:=fun S b r h=>by simp [noL] at h
theorem noTL_ok (X:Ctx α) (F:FuncId→Option Func):TLOk X F noTL:=fun _ _ _ _ _ b _=>noL_ok X b
theorem tellL_ok {X:Ctx α} {F:FuncId→Option Func} {g:FuncId} {L:LK α} {TL:LoopsT α} (hL:∀fn code,F g=some fn→fn.body=some code→∀b∈loopsOf code,LoopOk X L b) (hTL:TLOk X F TL):TLOk X F (tellL g L TL):=by
  intro f fn code hf hc b hb
  simp only [tellL,Bool.cond_eq_ite]
  split
  · rename_i he
    obtain rfl:=Nat.eq_of_beq_eq_true he
    exact hL fn code hf hc b hb
  · exact hTL f fn code hf hc b hb
def slotsAt:List (Nat×D α)→Nat→D α
  | [],_=>.bad
  | (t,d)::r,i=>bif Nat.beq t i then d else slotsAt r i
def mkT (l:List (Nat×D α)):Nat→Nat→List (D α)
  | _,0=>[]
  | i,n+1=>slotsAt l i::mkT l (i+1) n
def mkS (n:Nat) (l:List (Nat×D α)) (hs:Obs α):St α:=⟨mkT l 0 n,hs⟩
def keepOf (l:List Nat) (i:Nat):Bool:=memN l i
theorem mkT_length (l:List (Nat×D α)):∀n i,(mkT l i n).length=n
  | 0,_=>rfl
  | n+1,i=>by simp [mkT,mkT_length l n (i+1)]
theorem mkT_get (l:List (Nat×D α)):∀n i t,t < n→getT (mkT l i n) t=slotsAt l (i+t)
  | 0,_,_,h=>by omega
  | n+1,i,0,_=>rfl
  | n+1,i,t+1,h=>by
    simp only [mkT,getT]
    rw [mkT_get l n (i+1) t (by omega),show i+1+t=i+(t+1) by omega]
theorem mask_mkS {S:St α} {n:Nat} {l:List (Nat×D α)} {hs:Obs α} (hn:S.tm.length=n) (hh:S.hs=hs) (hl:∀x∈l,getT S.tm x.1=x.2):maskS (keepOf (l.map (·.1))) S=mkS n l hs:=by
  obtain ⟨tm,hs'⟩:=S
  simp only at hn hh hl
  subst hh
  have:maskT (keepOf (l.map (·.1))) 0 tm=mkT l 0 n:=by
    refine ext_getT (by rw [maskT_length,mkT_length];exact hn) fun t=>?_
    rw [maskT_get]
    have key:∀l:List (Nat×D α),(∀x∈l,getT tm x.1=x.2)→slotsAt l t=if keepOf (l.map (·.1)) t=true then getT tm t else .bad:=by
      intro l
      induction l with
      | nil=>intro _;simp [slotsAt,keepOf,memN]
      | cons x r ih =>
        intro h
        obtain ⟨s,d⟩:=x
        simp only [slotsAt,keepOf,List.map_cons,memN]
        cases hb:Nat.beq s t with
        | true =>
          obtain rfl:=Nat.eq_of_beq_eq_true hb
          have:=h (s,d) List.mem_cons_self
          simp only at this
          simp [this]
        | false =>
          simp only [cond_false,Bool.false_or]
          exact ih fun x hx=>h x (List.mem_cons_of_mem _ hx)
    rcases Nat.lt_or_ge t n with ht | ht
    · rw [mkT_get l n 0 t ht,Nat.zero_add]
      exact (key l hl).symm
    · rw [getT_out tm t (by omega),getT_out (mkT l 0 n) t (by rw [mkT_length];exact ht)]
      split<;>rfl
  simp only [maskS,mkS,this]
section
variable {X:Ctx α}
theorem loop_search {body:Code} {Sf:Nat→St α} {n:Nat} {p:Nat→Bool} {e1 e2:Ex} {S1 S2:St α} (h1:e1≠.normal) (h2:e2≠.normal)
    (step:∀i,i < n→p i=true→Goes X body (Sf i) .normal (Sf (i+1))) (stop:∀i,i < n→p i=false→Goes X body (Sf i) e2 S2) (last:Goes X body (Sf n) e1 S1) :
    Goes X (.loop body) (Sf 0) (pickR (.ite ((List.range n).all p) (.leaf e1 S1) (.leaf e2 S2))).1 (pickR (.ite ((List.range n).all p) (.leaf e1 S1) (.leaf e2 S2))).2:=by
  cases hall:(List.range n).all p with
  | true =>
    simp only [List.all_eq_true,List.mem_range] at hall
    exact loop_goes h1 n Sf (fun i hi=>step i hi (hall i hi)) last
  | false =>
    have:∃m,m < n∧p m=false∧∀i,i < m→p i=true:=by
      clear step stop last
      induction n with
      | zero=>simp at hall
      | succ n ih =>
        rw [List.range_succ,List.all_append,Bool.and_eq_false_iff] at hall
        cases hn:(List.range n).all p with
        | false =>
          obtain ⟨m,h1,h2,h3⟩:=ih hn
          exact ⟨m,by omega,h2,h3⟩
        | true =>
          rw [hn] at hall
          simp only [Bool.true_eq_false,List.all_cons,List.all_nil,Bool.and_true,false_or] at hall
          simp only [List.all_eq_true,List.mem_range] at hn
          exact ⟨n,by omega,hall,hn⟩
    obtain ⟨m,hm,h3,h4⟩:=this
    exact loop_goes h2 m Sf (fun i hi=>step i (by omega) (h4 i hi)) (stop m hm h3)
def ff (p:Nat→Bool):Nat→Nat
  | 0=>0
  | n+1=>bif p 0 then ff (fun i=>p (i+1)) n+1 else 0
theorem ff_spec:∀(n:Nat) (p:Nat→Bool),(ff p n=n∧∀i,i < n→p i=true)∨(ff p n < n∧p (ff p n)=false∧∀i,i < ff p n→p i=true)
  | 0,p=>.inl ⟨rfl,fun i h=>by omega⟩
  | n+1,p=>by
    cases h0:p 0 with
    | false=>exact .inr ⟨by simp [ff,h0],by simp [ff,h0],fun i h=>by simp [ff,h0] at h⟩
    | true =>
      have e:ff p (n+1)=ff (fun i=>p (i+1)) n+1:=by simp [ff,h0]
      rw [e]
      rcases ff_spec n (fun i=>p (i+1)) with ⟨h1,h2⟩ | ⟨h1,h2,h3⟩
      · refine .inl ⟨by omega,fun i hi=>?_⟩
        cases i with
        | zero=>exact h0
        | succ i=>exact h2 i (by omega)
      · refine .inr ⟨by omega,h2,fun i hi=>?_⟩
        cases i with
        | zero=>exact h0
        | succ i=>exact h3 i (by omega)
theorem loop_all {body:Code} {Sf:Nat→St α} {n:Nat} {e1:Ex} {S1:St α} (h1:e1≠.normal)
    (step:∀i,i < n→Goes X body (Sf i) .normal (Sf (i+1))) (last:Goes X body (Sf n) e1 S1):Goes X (.loop body) (Sf 0) (pickR (.leaf e1 S1)).1 (pickR (.leaf e1 S1)).2 :=
  loop_goes h1 n Sf step last
def seenS (n:Nat) (ts:List Nat) (S:St α):Option (List (D α)×Obs α):=bif Nat.beq S.tm.length n then some (ts.map (getT S.tm),S.hs) else none
theorem zip_fst:∀(ts:List Nat) (ds:List (D α)),ts.length=ds.length→(ts.zip ds).map (·.1)=ts
  | [],_,_=>rfl
  | t::r,[],h=>by simp at h
  | t::r,d::s,h=>by simp only [List.zip_cons_cons,List.map_cons];rw [zip_fst r s (by simpa using h)]
theorem seenS_mask {n:Nat} {ts:List Nat} {S:St α} {ds:List (D α)} {hs:Obs α} (h:seenS n ts S=some (ds,hs)):maskS (keepOf ts) S=mkS n (ts.zip ds) hs:=by
  unfold seenS at h
  cases hb:Nat.beq S.tm.length n with
  | false=>rw [hb] at h;simp at h
  | true =>
    rw [hb] at h
    simp only [cond_true,Option.some.injEq,Prod.mk.injEq] at h
    obtain ⟨rfl,rfl⟩:=h
    have e:=mask_mkS (S:=S) (n:=n) (l:=ts.zip (ts.map (getT S.tm))) (hs:=S.hs) (Nat.eq_of_beq_eq_true hb) rfl (by
      intro x hx
      have:∀(ts:List Nat) x,x∈ts.zip (ts.map (getT S.tm))→getT S.tm x.1=x.2:=by
        intro ts
        induction ts with
        | nil=>intro x hx;simp at hx
        | cons t r ih =>
          intro x hx
          simp only [List.map_cons,List.zip_cons_cons,List.mem_cons] at hx
          rcases hx with rfl | hx
          · rfl
          · exact ih x hx
      exact this ts x hx)
    rw [zip_fst ts _ (by simp)] at e
    exact e
def atL (id:Nat) (LS:St α→Option (Bool×LR α)) (L:LK α):LK α:=fun rid S=>bif Nat.beq rid id then LS S else L rid S
def SOk (X:Ctx α) (body:Code) (LS:St α→Option (Bool×LR α)):Prop:=∀S b r,LS S=some (b,r)→b=true→Goes X (.loop body) S (pickR r).1 (pickR r).2
theorem atL_ok {id:Nat} {LS:St α→Option (Bool×LR α)} {L:LK α} {body:Code} (h1:firstId body=id→SOk X body LS) (h2:firstId body≠id→LoopOk X L body):LoopOk X (atL id LS L) body:=by
  intro S b r h hb
  simp only [atL] at h
  cases hid:Nat.beq (firstId body) id with
  | true=>rw [hid] at h;exact h1 (Nat.eq_of_beq_eq_true hid) S b r h hb
  | false =>
    rw [hid] at h
    exact h2 (fun e=>by rw [e,Nat.beq_refl] at hid;simp at hid) S b r h hb
end
def Room0 (C:Pay α):D α→Prop
  | .int k n=>inR k n=true
  | .str l=>l.length≤big
  | .pl p _=>C.len p * C.bys p≤big
  | _=>True
def Room (C:Pay α):D α→Prop
  | .agg cs=>∀c∈cs,Room0 C c
  | d=>Room0 C d
theorem RD.room0 {C:Pay α} {cx:Cx α} {v:Value} {d:D α} (h:RD C cx v d):Room0 C d:=by
  cases h with
  | int k n h=>exact h
  | str s l h hl=>exact hl
  | pl0 a c p k hl hk=>show C.len p * C.bys p≤big;rw [hl];simp
  | pl b off n c p k vs hn hc hb hk hav hcell h1 hrd=>show C.len p * C.bys p≤big;rw [←hn];exact hb
  | _=>trivial
theorem RD.rooms {C:Pay α} {cx:Cx α} {v:Value} {d:D α} (h:RD C cx v d):Room C d:=by
  cases d with
  | agg cs =>
    intro c hc
    cases h with
    | agg vs _ hs h1 hrd =>
      obtain ⟨i,hi⟩:=List.mem_iff_getElem?.1 hc
      have hlt:i < cs.length:=(List.getElem?_eq_some_iff.1 hi).1
      exact (hrd i _ c (Array.getElem?_eq_getElem (by omega)) hi).room0
  | _=>exact h.room0
theorem SoundAt.rooms {P:Program} {C:Pay α} {glob:Nat→Option (List (D α))} {f:FuncId} {ds:List (D α)} {d:D α} (h:(∀d∈ds,Room C d)→SoundAt P C glob f ds d):SoundAt P C glob f ds d:=by
  intro w av vs hg ha hs hr
  refine h (fun d hd=>?_) w av vs hg ha hs hr
  obtain ⟨i,hi⟩:=List.mem_iff_getElem?.1 hd
  have hlt:i < ds.length:=(List.getElem?_eq_some_iff.1 hi).1
  exact (hr i _ d (Array.getElem?_eq_getElem (by omega)) hi).rooms
end
section
variable {emp:TypeId→Option Ty}
def asV:D Pl→Option Val
  | .agg cs=>dV cs
  | _=>none
theorem asL_rdle {t:Ty} {d:D Pl} {l:List t.C} (h:asL t d=some l):RDle (plC emp) d (.pl ⟨t,l⟩ .any):=RDle.of (asL_le (fun _=>rfl) h)
theorem dV_rdle {cs:List (D Pl)} {v:Val} (h:dV cs=some v):RDles (plC emp) cs (cV v):=by
  unfold dV at h
  split at h
  · split at h
    · rename_i h1 h2
      simp only [Option.some.injEq] at h
      subst h
      exact .cons (RDle.refl _) (.cons (RDle.refl _) (.cons (RDle.refl _) (.cons (asL_rdle h1) (.cons (asL_rdle h2) (RDles.refl _)))))
    · simp at h
  · simp at h
theorem asV_rdle {d:D Pl} {v:Val} (h:asV d=some v):RDle (plC emp) d (.agg (cV v)):=by
  unfold asV at h
  split at h
  · exact RDle.agg (dV_rdle h)
  · simp at h
end
end Go.Eng
