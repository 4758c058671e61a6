/-
  THE ENGINE, PART J: OBJECTS MADE, TURNED, LET GO.
-/
import Derived.Test.YtlnkjdedeegajaaGreatDoorEngI
namespace Go.Eng
open Go.RowKit
variable {α:Type}
theorem look_upd (hs:Obs α) (o k:Nat) (y:Ob α):look (upd hs o y) k=if k=o then (look hs o).map (fun _=>y) else look hs k:=by
  induction hs with
  | nil=>simp [upd,look]
  | cons p r ih =>
    obtain ⟨n,x⟩:=p
    simp only [upd]
    cases h:Nat.beq n o with
    | true =>
      obtain rfl:=Nat.eq_of_beq_eq_true h
      simp only [cond_true,look,h]
      by_cases hk:k=n
      · subst hk;simp
      · have:Nat.beq n k=false:=by
          cases h':Nat.beq n k with
          | false=>rfl
          | true=>exact absurd (Nat.eq_of_beq_eq_true h').symm hk
        simp [this,hk]
    | false =>
      simp only [cond_false,look,h,ih]
      by_cases hk:k=o
      · subst hk;simp [h]
      · simp [hk]
theorem look_drop (hs:Obs α) (o k:Nat):look (drop hs o) k=if k=o then none else look hs k:=by
  induction hs with
  | nil=>simp [drop,look]
  | cons p r ih =>
    obtain ⟨n,x⟩:=p
    simp only [drop]
    cases h:Nat.beq n o with
    | true =>
      obtain rfl:=Nat.eq_of_beq_eq_true h
      simp only [cond_true,look,ih]
      by_cases hk:k=n
      · simp [hk]
      · have:Nat.beq n k=false:=by
          cases h':Nat.beq n k with
          | false=>rfl
          | true=>exact absurd (Nat.eq_of_beq_eq_true h').symm hk
        simp [this,hk]
    | false =>
      simp only [cond_false,look,ih]
      by_cases hk:k=o
      · subst hk;simp [h]
      · simp [hk]
theorem look_killH (ns:Nat→Bool) (hs:Obs α) (k:Nat):look (killH ns hs) k=(look hs k).map (killOb ns):=by
  induction hs with
  | nil=>simp [killH,look]
  | cons p r ih =>
    obtain ⟨n,x⟩:=p
    simp only [killH,look,ih]
    cases Nat.beq n k<;>simp
theorem look_cons (n k:Nat) (x:Ob α) (r:Obs α):look ((n,x)::r) k=if k=n then some x else look r k:=by
  simp only [look]
  cases h:Nat.beq n k with
  | true=>obtain rfl:=Nat.eq_of_beq_eq_true h;simp
  | false =>
    have:¬ k=n:=by rintro rfl;simp at h
    simp [this]
theorem freezeOb_idem (x:Ob α):freezeOb (freezeOb x)=freezeOb x:=by cases x<;>rfl
theorem look_freeze (ns:List Nat):∀(hs:Obs α) (k:Nat),look (freeze hs ns) k=if k∈ns then (look hs k).map freezeOb else look hs k:=by
  induction ns with
  | nil=>intro hs k;simp [freeze]
  | cons n r ih =>
    intro hs k
    simp only [freeze]
    split
    · rename_i x hx
      rw [ih,look_upd]
      by_cases hk:k=n
      · subst hk
        simp only [if_true,hx,Option.map_some,List.mem_cons,true_or]
        split<;>simp [freezeOb_idem]
      · simp [hk]
    · rename_i hx
      rw [ih]
      by_cases hk:k=n
      · subst hk;simp [hx]
      · simp [hk]
theorem look_rebind (o dst:Nat) (ob:Ob α) (hs:Obs α) (k:Nat):look (rebind o dst ob hs) k=if k=dst then some ob else if k=o then none else (look hs k).map (killOb (nsOf o dst)):=by
  unfold rebind
  rw [look_cons,look_killH,look_drop,look_drop]
  by_cases h1:k=dst
  · simp [h1]
  · by_cases h2:k=o<;>simp [h1,h2]
theorem fz_killOb (ns:Nat→Bool) (x:Ob α):(killOb ns x).fz=x.fz:=by cases x<;>rfl
section
variable {X:Ctx α} (hX:XOk X) {g:Gh} {tm:List (D α)} {hs:Obs α} {a:Act} {w:World} (hS:Sim X g tm hs a w)
def KeepH (ns:Nat→Bool) (hs hs':Obs α) (rho rho':Nat→Option Nat):Prop :=
  ∀k,ns k=false→look hs' k=(look hs k).map (killOb ns)∧rho' k=rho k
theorem cxLe_step {C:Pay α} {ns:Nat→Bool} {hs':Obs α} {w':World} {rho':Nat→Option Nat} (hk:KeepH ns hs hs' g.rho rho')
    (hcell:∀(b:Nat) ob,¬ (cxOf g hs w).av b→w.heap[b]?=some ob→w'.heap[b]?=some ob)
    (hnew:∀k ob b,ns k=true→look hs' k=some ob→ob.fz=false→rho' k=some b→b < w.heap.size→(cxOf g hs w).av b)
    (hsz:∀(b:Nat) cells T fz,w.heap[b]?=some (.cells cells T fz)→∃cells' T' fz',w'.heap[b]?=some (.cells cells' T' fz')∧cells'.size=cells.size) :
    CxLe C ns (cxOf g hs w) (cxOf { g with rho:=rho' } hs' w') where
  cell:=hcell
  av := fun b ob hb hav hav' => by
    rcases hav' with h0 | ⟨o,x,hl,hf,hr⟩
    · exact hav (.inl h0)
    · cases hns:ns o with
      | true=>exact hav (hnew o x b hns hl hf hr (lt_of_heap hb))
      | false =>
        obtain ⟨h1,h2⟩:=hk o hns
        simp only at hl hr
        rw [h1] at hl
        obtain ⟨x',hx',rfl⟩:=Option.map_eq_some_iff.1 hl
        rw [h2] at hr
        exact hav (.inr ⟨o,x',hx',by rw [fz_killOb] at hf;exact hf,hr⟩)
  bx:=fun o b hns h=>by
    obtain ⟨h1,h2⟩:=hk o hns
    simp only [cxOf] at h ⊢
    rw [h1]
    cases hl:look hs o with
    | none=>simp [hl] at h
    | some x =>
      cases x with
      | box fz cs=>simp only [hl] at h;simp [killOb,h2,h]
      | arr fz p=>simp [hl] at h
      | map fz p=>simp only [hl] at h;simp [killOb,h2,h]
  ar := fun o b p hns h => by
    obtain ⟨h1,h2⟩:=hk o hns
    simp only [cxOf] at h ⊢
    rw [h1]
    cases hl:look hs o with
    | none=>simp [hl] at h
    | some x =>
      cases x with
      | box fz cs=>simp [hl] at h
      | arr fz q =>
        simp only [hl,Option.some.injEq,Prod.mk.injEq] at h
        exact ⟨p,by simp [killOb,h2,h],rfl,rfl⟩
      | map fz q=>simp [hl] at h
  size:=hsz
theorem blt_no {k:Nat} (h:Nat.blt k 40000=true):Nat.blt k 50000=true:=by
  have:=Nat.le_of_ble_eq_true h
  exact Nat.ble_eq_true_of_le (by omega)
include hX hS in
theorem sim_step {ns:Nat→Bool} {hs':Obs α} {w':World} {rho':Nat→Option Nat} (hk:KeepH ns hs hs' g.rho rho') (hb:BelowL X.C.dr g.w0.heap.size g.lent w w')
    (hle:CxLe X.C ns (cxOf g hs w) (cxOf { g with rho:=rho' } hs' w'))
    (hold:∀k ob b,ns k=false→look hs k=some ob→g.rho k=some b→w'.heap[b]?=w.heap[b]?)
    (hob:∀k ob,ns k=true→look hs' k=some ob→ObRel X.C (cxOf { g with rho:=rho' } hs' w') (rho' k) ob)
    (hown:∀k ob b,ns k=true→look hs' k=some ob→rho' k=some b→(g.w0.heap.size≤b∨g.lent b)∧b < w'.heap.size)
    (hinj:∀k k' ob ob' b,ns k=true→look hs' k=some ob→look hs' k'=some ob'→rho' k=some b→rho' k'=some b→k=k')
    (htop:∀k ob,ns k=true→look hs' k=some ob→Nat.blt k 40000=true) :
    Sim X { g with rho:=rho' } (tm.map (kill ns)) hs' a w':=by
  have hkeep:∀k ob,ns k=false→look hs' k=some ob→∃ob0,look hs k=some ob0∧ob=killOb ns ob0∧rho' k=g.rho k:=by
    intro k ob hns hl
    obtain ⟨h1,h2⟩:=hk k hns
    rw [h1] at hl
    obtain ⟨x,hx,rfl⟩:=Option.map_eq_some_iff.1 hl
    exact ⟨x,hx,rfl,h2⟩
  refine ⟨by simp [hS.size],fun t=>?_,hS.dfr,fun o ob ho=>?_,fun o o' ob ob' b ho ho' hr hr'=>?_,fun o ob b ho hr=>?_,hS.below.trans hb,hS.av0,hS.lav,fun c b hc=>?_,hS.glob⟩
  · rw [getT_map _ (by simp [kill])]
    exact RG.kill hX.pay hle (hS.tm t)
  · cases hns:ns o with
    | true=>exact hob o ob hns ho
    | false =>
      obtain ⟨x,hx,rfl,hr⟩:=hkeep o ob hns ho
      show ObRel X.C _ (rho' o) _
      rw [hr]
      exact ObRel.grow hX.pay hle (fun b' ob' hb' hh=>by
        show w'.heap[b']?=_
        rw [hold o x b' hns hx hb'];exact hh) (hS.obs o x hx)
  · cases hns:ns o with
    | true=>exact hinj o o' ob ob' b hns ho ho' hr hr'
    | false =>
      cases hns':ns o' with
      | true=>exact (hinj o' o ob' ob b hns' ho' ho hr' hr).symm
      | false =>
        obtain ⟨x,hx,_,h1⟩:=hkeep o ob hns ho
        obtain ⟨x',hx',_,h1'⟩:=hkeep o' ob' hns' ho'
        simp only at hr hr'
        rw [h1] at hr
        rw [h1'] at hr'
        exact hS.inj o o' x x' b hx hx' hr hr'
  · cases hns:ns o with
    | true=>exact hown o ob b hns ho hr
    | false =>
      obtain ⟨x,hx,_,h1⟩:=hkeep o ob hns ho
      simp only at hr
      rw [h1] at hr
      have:=hS.own o x b hx hr
      exact ⟨this.1,Nat.lt_of_lt_of_le this.2 hb.size⟩
  · obtain ⟨h1,h1',h2⟩:=hS.top c b hc
    refine ⟨h1,h1',fun ob ho=>?_⟩
    cases hns:ns c with
    | true=>have:=blt_no (htop c ob hns ho);rw [this] at h1;simp at h1
    | false =>
      obtain ⟨x,hx,rfl,hr⟩:=hkeep c ob hns ho
      obtain ⟨h3,h4⟩:=h2 x hx
      refine ⟨hr.trans h3,fun f p e=>?_⟩
      cases x with
      | arr f' p'=>exact h4 f' p' rfl
      | box _ _=>simp [killOb] at e
      | map _ _=>simp [killOb] at e
def OpOut (X:Ctx α) (g:Gh) (tm:List (D α)) (hs:Obs α) (a:Act) (r:Res α) (v:Value) (w':World):Prop :=
  ∃rho',Sim X { g with rho:=rho' } (r.ch.getD (tm,hs)).1 (r.ch.getD (tm,hs)).2 a w'∧RD X.C (cxOf { g with rho:=rho' } (r.ch.getD (tm,hs)).2 w') v r.d
include hX hS in
theorem OpOut.quiet {r:Res α} {v:Value} {w':World} (hb:BelowD X.C.dr w.heap.size w w') (hch:r.ch=none) (hd:RD X.C (cxOf g hs w') v r.d):OpOut X g tm hs a r v w':=by
  refine ⟨g.rho,?_,?_⟩
  · simp only [hch,Option.getD_none];exact hS.grow hX.pay hb
  · simp only [hch,Option.getD_none];exact hd
include hX hS in
theorem OpOut.pure {r:Res α} {v:Value} (hch:r.ch=none) (hd:RD X.C (cxOf g hs w) v r.d):OpOut X g tm hs a r v w :=
  OpOut.quiet hX hS (BelowD.refl _ _) hch hd
theorem heap_alloc_new' (w:World) (o:Obj):(w.alloc o).heap[w.heap.size]?=some o:=heap_alloc_new w o
theorem heap_alloc_old' (w:World) (o:Obj) {b:Nat} (h:b < w.heap.size):(w.alloc o).heap[b]?=w.heap[b]?:=heap_alloc_old w o h
def bind1 (rho:Nat→Option Nat) (k:Nat) (b:Option Nat):Nat→Option Nat:=fun o=>if o=k then b else rho o
include hX hS in
theorem rebind_sound (dst o2:Nat) (hdst:Nat.blt dst 40000=true) (ob:Ob α) (bn:Option Nat) (w':World) (hb:BelowL X.C.dr g.w0.heap.size g.lent w w')
    (hcell:∀(k:Nat) ob,w.heap[k]?=some ob→some k≠bn→w'.heap[k]?=some ob)
    (hsz:∀(b:Nat) cells T fz,w.heap[b]?=some (.cells cells T fz)→∃cells' T' fz',w'.heap[b]?=some (.cells cells' T' fz')∧cells'.size=cells.size)
    (hbn:∀b,bn=some b→(g.w0.heap.size≤b∨g.lent b)∧b < w'.heap.size∧(b < w.heap.size→∃ob0,look hs o2=some ob0∧ob0.fz=false∧g.rho o2=some b))
    (hob:CxLe X.C (nsOf o2 dst) (cxOf g hs w) (cxOf { g with rho:=bind1 g.rho dst bn } (rebind o2 dst ob hs) w')→ObRel X.C (cxOf { g with rho:=bind1 g.rho dst bn } (rebind o2 dst ob hs) w') bn ob) :
    Sim X { g with rho:=bind1 g.rho dst bn } (tm.map (kill (nsOf o2 dst))) (rebind o2 dst ob hs) a w':=by
  have hhs:=look_rebind o2 dst ob hs
  generalize rebind o2 dst ob hs=hs' at *
  have hn:∀k,nsOf o2 dst k=false→¬ k=o2∧¬ k=dst:=by
    intro k hk
    simp only [nsOf,Bool.or_eq_false_iff] at hk
    exact ⟨by rintro rfl;simp at hk,by rintro rfl;simp at hk⟩
  have hk:KeepH (nsOf o2 dst) hs hs' g.rho (bind1 g.rho dst bn):=by
    intro k hns
    obtain ⟨h1,h2⟩:=hn k hns
    rw [hhs,if_neg h2,if_neg h1]
    exact ⟨rfl,by simp [bind1,h2]⟩
  have hnew:∀k x,nsOf o2 dst k=true→look hs' k=some x→k=dst∧x=ob:=by
    intro k x hns hl
    rw [hhs] at hl
    by_cases h2:k=dst
    · simp only [h2,if_true,Option.some.injEq] at hl;exact ⟨h2,hl.symm⟩
    · rw [if_neg h2] at hl
      simp only [nsOf,Bool.or_eq_true] at hns
      rcases hns with h | h
      · rw [if_pos (Nat.eq_of_beq_eq_true h)] at hl;simp at hl
      · exact absurd (Nat.eq_of_beq_eq_true h) h2
  have hle:=cxLe_step (C:=X.C) (g:=g) (hs:=hs) (w:=w) (w':=w') hk
    (fun b ob' hav hb'=>hcell b ob' hb' (fun e=>by
      obtain ⟨_,_,h3⟩:=hbn b e.symm
      obtain ⟨ob0,h4,h5,h6⟩:=h3 (lt_of_heap hb')
      exact hav (.inr ⟨o2,ob0,h4,h5,h6⟩)))
    (fun k x b hns hl hf hr hlt=>by
      obtain ⟨rfl,rfl⟩:=hnew k x hns hl
      simp only [bind1,if_true] at hr
      obtain ⟨_,_,h3⟩:=hbn b hr
      obtain ⟨ob0,h4,h5,h6⟩:=h3 hlt
      exact .inr ⟨o2,ob0,h4,h5,h6⟩) hsz
  refine sim_step hX hS hk hb hle (fun k x b hns hl hr=>?_) (fun k x hns hl=>?_) (fun k x b hns hl hr=>?_) (fun k k' x x' b hns hl hl' hr hr'=>?_) (fun k x hns hl=>by obtain ⟨rfl,_⟩:=hnew k x hns hl;exact hdst)
  · have hlt:=(hS.own k x b hl hr).2
    have:w.heap[b]?=some w.heap[b]:=by simp [hlt]
    rw [this]
    refine hcell b _ this (fun e=>?_)
    obtain ⟨_,_,h3⟩:=hbn b e.symm
    obtain ⟨ob0,h4,h5,h6⟩:=h3 hlt
    exact (hn k hns).1 (hS.inj k o2 x ob0 b hl h4 hr h6)
  · obtain ⟨rfl,rfl⟩:=hnew k x hns hl
    have:bind1 g.rho k bn k=bn:=by simp [bind1]
    rw [this]
    exact hob hle
  · obtain ⟨rfl,rfl⟩:=hnew k x hns hl
    simp only [bind1,if_true] at hr
    obtain ⟨h1,h2,_⟩:=hbn b hr
    exact ⟨h1,h2⟩
  · obtain ⟨rfl,rfl⟩:=hnew k x hns hl
    simp only [bind1,if_true] at hr
    by_cases hk':k'=k
    · exact hk'.symm
    · simp only [bind1] at hr'
      rw [if_neg hk'] at hr'
      exfalso
      cases hns':nsOf o2 k k' with
      | true=>exact hk' (hnew k' x' hns' hl').1
      | false =>
        obtain ⟨h1,h2⟩:=hk k' hns'
        rw [h1] at hl'
        obtain ⟨y,hy,_⟩:=Option.map_eq_some_iff.1 hl'
        have hlt:=(hS.own k' y _ hy hr').2
        obtain ⟨_,_,h3⟩:=hbn b hr
        obtain ⟨ob0,h4,h5,h6⟩:=h3 hlt
        exact (hn k' hns').1 (hS.inj k' o2 y ob0 b hy h4 hr' h6)
include hX hS in
theorem new_sound (dst o2:Nat) (hdst:Nat.blt dst 40000=true) (ob:Ob α) (obj:Obj) (w1:World) (hw1:BelowD X.C.dr w.heap.size w w1) (hs1:w1.heap.size=w.heap.size)
    (hob:∀cx:Cx α,CxLe X.C (nsOf o2 dst) (cxOf g hs w) cx→cx.w.heap[w.heap.size]?=some obj→ObRel X.C cx (some w.heap.size) ob) :
    Sim X { g with rho:=bind1 g.rho dst (some w.heap.size) } (tm.map (kill (nsOf o2 dst))) (rebind o2 dst ob hs) a (w1.alloc obj):=by
  have hlt:∀b:Nat,b < w.heap.size→(w1.alloc obj).heap[b]?=w.heap[b]?:=by
    intro b hb
    rw [heap_alloc_old' _ _ (by omega),hw1.block b hb]
  refine rebind_sound hX hS dst o2 hdst ob (some w.heap.size) (w1.alloc obj) (toL ((hw1.mono hS.below.size).alloc (by have:=hS.below.size;omega) obj))
    (fun k ob' hk _=>by rw [hlt k (lt_of_heap hk)];exact hk) (fun b cells T fz hb=>⟨cells,T,fz,by rw [hlt b (lt_of_heap hb)];exact hb,rfl⟩)
    (fun b hb=>?_) (fun hle=>hob _ hle ?_)
  · simp only [Option.some.injEq] at hb
    subst hb
    exact ⟨.inl hS.below.size,by rw [World.size_alloc];omega,fun h=>by omega⟩
  · show (w1.alloc obj).heap[w.heap.size]?=_
    rw [←hs1];exact heap_alloc_new' _ _
include hX hS in
theorem sim_write {o b:Nat} {ob ob':Ob α} {w':World} (hl:look hs o=some ob) (hf:ob.fz=false) (hrho:g.rho o=some b) (hf':ob'.fz=false)
    (hkind:match ob,ob' with | .box _ _,.box _ _=>True | .map _ _,.map _ _=>True | .arr _ p,.arr _ q=>X.C.len q=X.C.len p∧X.C.esz q=X.C.esz p | _,_=>False)
    (hq:w'.os=w.os∧w'.tape=w.tape∧w'.output=w.output∧w.drawn≤w'.drawn) (hsize:w'.heap.size=w.heap.size) (hcell:∀(k:Nat),k≠b→w'.heap[k]?=w.heap[k]?)
    (hsz:∀(k:Nat) cells T fz,w.heap[k]?=some (.cells cells T fz)→∃cells' T' fz',w'.heap[k]?=some (.cells cells' T' fz')∧cells'.size=cells.size)
    (hob:CxLe X.C (fun _=>false) (cxOf g hs w) (cxOf g (upd hs o ob') w')→ObRel X.C (cxOf g (upd hs o ob') w') (some b) ob') :
    Sim X g tm (upd hs o ob') a w':=by
  have hb:BelowL X.C.dr g.w0.heap.size g.lent w w':=⟨hq.1,hq.2.1,hq.2.2.1,by omega,fun k hk hL=>hcell k (fun e=>by
    subst e
    rcases (hS.own o ob k hl hrho).1 with h | h
    · omega
    · exact hL h),fun k cells T fz _ hc=>hsz k cells T fz hc,fun _=>hq.2.2.2⟩
  have hlu:∀k x,look (upd hs o ob') k=some x→∃y,look hs k=some y∧y.fz=x.fz∧(k≠o→x=y):=by
    intro k x h
    rw [look_upd] at h
    by_cases hk:k=o
    · subst hk
      simp only [if_true,hl,Option.map_some,Option.some.injEq] at h
      subst h
      exact ⟨ob,hl,by rw [hf,hf'],fun e=>absurd rfl e⟩
    · rw [if_neg hk] at h
      exact ⟨x,h,rfl,fun _=>rfl⟩
  have hle:CxLe X.C (fun _=>false) (cxOf g hs w) (cxOf g (upd hs o ob') w'):=by
    refine ⟨fun k x hav hk=>?_,fun k x hk hav hav'=>?_,fun k b' _ h=>?_,fun k b' p _ h=>?_,hsz⟩
    · show w'.heap[k]?=_
      rw [hcell k (fun e=>hav (.inr ⟨o,ob,hl,hf,by rw [e];exact hrho⟩))]
      exact hk
    · rcases hav' with h0 | ⟨o',x',hl',hf'',hr'⟩
      · exact hav (.inl h0)
      · obtain ⟨y,hy,hfy,_⟩:=hlu o' x' hl'
        exact hav (.inr ⟨o',y,hy,by rw [hfy];exact hf'',hr'⟩)
    · simp only [cxOf] at h ⊢
      rw [look_upd]
      by_cases hk:k=o
      · subst hk
        simp only [hl] at h
        cases ob with
        | box fz cs=>cases ob' with
          | box fz' cs'=>simpa [hl] using h
          | arr fz' q=>exact hkind.elim
          | map fz' q=>exact hkind.elim
        | arr fz p=>simp at h
        | map fz p=>cases ob' with
          | box fz' cs'=>exact hkind.elim
          | arr fz' q=>exact hkind.elim
          | map fz' q=>simpa [hl] using h
      · rw [if_neg hk];exact h
    · simp only [cxOf] at h ⊢
      rw [look_upd]
      by_cases hk:k=o
      · subst hk
        simp only [hl] at h
        cases ob with
        | box fz cs=>simp at h
        | map fz cs=>simp at h
        | arr fz p'=>cases ob' with
          | box fz' cs'=>exact hkind.elim
          | map fz' cs'=>exact hkind.elim
          | arr fz' q =>
            simp only [Option.some.injEq,Prod.mk.injEq] at h
            obtain ⟨h1,rfl⟩:=h
            exact ⟨q,by simp [hl,h1],hkind.1,hkind.2⟩
      · rw [if_neg hk];exact ⟨p,h,rfl,rfl⟩
  refine ⟨hS.size,fun t=>?_,hS.dfr,fun k x hk=>?_,fun k k' x x' b' hk hk' hr hr'=>?_,fun k x b' hk hr=>?_,hS.below.trans hb,hS.av0,hS.lav,fun c b' hc=>⟨(hS.top c b' hc).1,(hS.top c b' hc).2.1,fun x hx=>?_⟩,hS.glob⟩
  · have:=RG.kill hX.pay hle (hS.tm t)
    rwa [kill_none] at this
  · by_cases hko:k=o
    · subst hko
      rw [look_upd,if_pos rfl,hl] at hk
      simp only [Option.map_some,Option.some.injEq] at hk
      subst hk
      rw [hrho]
      exact hob hle
    · rw [look_upd,if_neg hko] at hk
      have:=ObRel.grow hX.pay hle (b:=g.rho k) (fun b' ob'' hb' hh=>by
        show w'.heap[b']?=_
        rw [hcell b' (fun e=>hko (hS.inj k o x ob b hk hl (by rw [hb',e]) hrho))];exact hh) (hS.obs k x hk)
      rwa [killOb_none] at this
  · obtain ⟨y,hy,_⟩:=hlu k x hk
    obtain ⟨y',hy',_⟩:=hlu k' x' hk'
    exact hS.inj k k' y y' b' hy hy' hr hr'
  · obtain ⟨y,hy,_⟩:=hlu k x hk
    have:=hS.own k y b' hy hr
    exact ⟨this.1,by omega⟩
  · rw [look_upd] at hx
    by_cases hco:c=o
    · subst hco
      simp only [if_true,hl,Option.map_some,Option.some.injEq] at hx
      subst hx
      obtain ⟨h1,h2⟩:=(hS.top c b' hc).2.2 ob hl
      refine ⟨h1,fun f p e=>?_⟩
      subst e
      cases ob with
      | arr f' p'=>exact h2 f' p' rfl
      | box _ _=>exact hkind.elim
      | map _ _=>exact hkind.elim
    · rw [if_neg hco] at hx
      exact (hS.top c b' hc).2.2 x hx
include hX hS in
theorem sim_freeze (ns:List Nat):Sim X g tm (freeze hs ns) a w∧CxLe X.C (fun _=>false) (cxOf g hs w) (cxOf g (freeze hs ns) w):=by
  have hlu:∀k x,look (freeze hs ns) k=some x→∃y,look hs k=some y∧(x=y∨x=freezeOb y):=by
    intro k x h
    rw [look_freeze] at h
    split at h
    · obtain ⟨y,hy,rfl⟩:=Option.map_eq_some_iff.1 h
      exact ⟨y,hy,.inr rfl⟩
    · exact ⟨x,h,.inl rfl⟩
  have hle:CxLe X.C (fun _=>false) (cxOf g hs w) (cxOf g (freeze hs ns) w):=by
    refine ⟨fun k x _ hk=>hk,fun k x _ hav hav'=>?_,fun k b' _ h=>?_,fun k b' p _ h=>?_,fun k cells T fz h=>⟨cells,T,fz,h,rfl⟩⟩
    · rcases hav' with h0 | ⟨o',x',hl',hf',hr'⟩
      · exact hav (.inl h0)
      · obtain ⟨y,hy,rfl | rfl⟩:=hlu o' x' hl'
        · exact hav (.inr ⟨o',_,hy,hf',hr'⟩)
        · cases y<;>simp [freezeOb,Ob.fz] at hf'
    · simp only [cxOf] at h ⊢
      rw [look_freeze]
      cases hl:look hs k with
      | none=>simp [hl] at h
      | some y =>
        rw [hl] at h
        cases y with
        | box fz cs=>by_cases hm:k∈ns<;>simpa [freezeOb,hl,hm] using h
        | arr fz p=>simp at h
        | map fz p=>by_cases hm:k∈ns<;>simpa [freezeOb,hl,hm] using h
    · simp only [cxOf] at h ⊢
      rw [look_freeze]
      cases hl:look hs k with
      | none=>simp [hl] at h
      | some y =>
        rw [hl] at h
        cases y with
        | box fz cs=>simp at h
        | map fz cs=>simp at h
        | arr fz q =>
          simp only [Option.some.injEq,Prod.mk.injEq] at h
          obtain ⟨h1,rfl⟩:=h
          refine ⟨q,?_,rfl,rfl⟩
          by_cases hm:k∈ns<;>simp [freezeOb,h1,hm]
  refine ⟨⟨hS.size,fun t=>?_,hS.dfr,fun k x hk=>?_,fun k k' x x' b' hk hk' hr hr'=>?_,fun k x b' hk hr=>?_,hS.below,hS.av0,hS.lav,fun c b' hc=>⟨(hS.top c b' hc).1,(hS.top c b' hc).2.1,fun x hx=>?_⟩,hS.glob⟩,hle⟩
  · have:=RG.kill hX.pay hle (hS.tm t)
    rwa [kill_none] at this
  · obtain ⟨y,hy,h⟩:=hlu k x hk
    have:=ObRel.grow hX.pay hle (b:=g.rho k) (fun b' ob'' hb' hh=>hh) (hS.obs k y hy)
    rw [killOb_none] at this
    rcases h with rfl | rfl
    · exact this
    · cases y<;>exact this
  · obtain ⟨y,hy,_⟩:=hlu k x hk
    obtain ⟨y',hy',_⟩:=hlu k' x' hk'
    exact hS.inj k k' y y' b' hy hy' hr hr'
  · obtain ⟨y,hy,_⟩:=hlu k x hk
    exact hS.own k y b' hy hr
  · obtain ⟨y,hy,h⟩:=hlu c x hx
    obtain ⟨h1,h2⟩:=(hS.top c b' hc).2.2 y hy
    refine ⟨h1,fun f p e=>?_⟩
    rcases h with rfl | rfl
    · exact h2 f p e
    · cases y with
      | arr f' p'=>exact h2 f' p' rfl
      | box _ _=>simp [freezeOb] at e
      | map _ _=>simp [freezeOb] at e
end
end Go.Eng
