/-
  THE ENGINE, PART Y: STATES OF ONE FORM: what two names stand for is exchanged; objects in a given order.
-/
import Derived.Test.YtlnkjdedeegajaaGreatDoorEngTell
namespace Go.Eng
open Go.RowKit
variable {α:Type}
mutual
def ren (f:Nat→Nat):D α→D α
  | .arr o=>.arr (f o)
  | .ptr o off=>.ptr (f o) off
  | .epr o i off=>.epr (f o) i off
  | .mp o=>.mp (f o)
  | .agg cs=>.agg (renL f cs)
  | .tup cs=>.tup (renL f cs)
  | .ref cs=>.ref (renL f cs)
  | .fn g cs=>.fn g (renL f cs)
  | .ifc t d=>.ifc t (ren f d)
  | .gd ks t d=>.gd ks t (ren f d)
  | .ow k d=>.ow k (ren f d)
  | d=>d
def renL (f:Nat→Nat):List (D α)→List (D α)
  | []=>[]
  | d::r=>ren f d::renL f r
end
def renOb (f:Nat→Nat):Ob α→Ob α
  | .box fz cs=>.box fz (renL f cs)
  | x=>x
def renH (f:Nat→Nat):Obs α→Obs α
  | []=>[]
  | (n,x)::r=>(f n,renOb f x)::renH f r
def renS (f:Nat→Nat) (S:St α):St α:=⟨S.tm.map (ren f),renH f S.hs⟩
theorem renL_get (f:Nat→Nat):∀(cs:List (D α)) (i:Nat),(renL f cs)[i]?=(cs[i]?).map (ren f)
  | [],i=>by simp [renL]
  | d::r,0=>by simp [renL]
  | d::r,i+1=>by simp [renL,renL_get f r i]
theorem renL_length (f:Nat→Nat):∀(cs:List (D α)),(renL f cs).length=cs.length
  | []=>by simp [renL]
  | d::r=>by simp [renL,renL_length f r]
mutual
theorem ren_closed (f:Nat→Nat):∀(d:D α),closed d=true→ren f d=d
  | .bool _,_ | .int _ _,_ | .str _,_ | .nilP,_ | .nilS,_ | .nilF,_ | .nilI,_ | .nilM,_ | .lit _,_ | .pl _ _,_ | .mr _,_ | .ifa,_ | .mref _ _,_ | .bad,_ | .obB _ _,_ | .obA _ _,_ | .obM _ _,_ | .env _ _,_=>by simp [ren]
  | .arr _,h | .ptr _ _,h | .epr _ _ _,h | .mp _,h | .gd _ _ _,h=>by simp [closed] at h
  | .agg cs,h=>by simp only [closed] at h;simp [ren,renL_closed f cs h]
  | .tup cs,h=>by simp only [closed] at h;simp [ren,renL_closed f cs h]
  | .ref cs,h=>by simp only [closed] at h;simp [ren,renL_closed f cs h]
  | .fn g cs,h=>by simp only [closed] at h;simp [ren,renL_closed f cs h]
  | .ifc t d,h=>by simp only [closed] at h;simp [ren,ren_closed f d h]
  | .ow k d,h=>by simp only [closed] at h;simp [ren,ren_closed f d h]
theorem renL_closed (f:Nat→Nat):∀(cs:List (D α)),closedL cs=true→renL f cs=cs
  | [],_=>by simp [renL]
  | d::r,h=>by
    simp only [closedL,Bool.and_eq_true] at h
    simp [renL,ren_closed f d h.1,renL_closed f r h.2]
end
def Cx.ren (f:Nat→Nat) (cx:Cx α):Cx α:=⟨cx.w,cx.av,fun o=>cx.bx (f o),fun o=>cx.ar (f o)⟩
theorem RD.ren {C:Pay α} (hC:PayOk C) {f:Nat→Nat} (hf:∀o,f (f o)=o) {cx:Cx α} {v:Value} {d:D α} (h:RD C cx v d):RD C (cx.ren f) v (ren f d):=by
  induction h with
  | bool b=>exact .bool b
  | int k n h=>exact .int k n h
  | str s l h hl=>exact .str s l h hl
  | nilP=>exact .nilP
  | nilS=>exact .nilS
  | nilF=>exact .nilF
  | nilI=>exact .nilI
  | nilM=>exact .nilM
  | lit v=>exact .lit v
  | agg vs cs hs h1 h ih =>
    refine .agg vs _ (by rw [renL_length];exact hs) h1 fun i v c hv hc=>?_
    rw [renL_get] at hc
    obtain ⟨c',hc',rfl⟩:=Option.map_eq_some_iff.1 hc
    exact ih i v c' hv hc'
  | tup vs cs hs h ih =>
    refine .tup vs _ (by rw [renL_length];exact hs) fun i v c hv hc=>?_
    rw [renL_get] at hc
    obtain ⟨c',hc',rfl⟩:=Option.map_eq_some_iff.1 hc
    exact ih i v c' hv hc'
  | pl0 a c p k hl hk hsp=>exact .pl0 a c p k hl hk hsp
  | pl b off n c p k vs hn hc hb hk hav hcell h1 hrd hsp ih =>
    refine .pl b off n c p k vs hn hc hb hk hav hcell h1 (fun i j d hi hd=>?_) hsp
    have:=ih i j d hi hd
    rwa [ren_closed f d (hC.clo p i d (List.mem_of_getElem? hd))] at this
  | arrO o b p n c ho hn hc hsz=>exact .arrO (f o) b p n c (show cx.ar (f (f o))=_ by rw [hf];exact ho) hn hc hsz
  | arrN o p a ho hn=>exact .arrN (f o) p a (show cx.ar (f (f o))=_ by rw [hf];exact ho) hn
  | ptr o off b ho=>exact .ptr (f o) off b (show cx.bx (f (f o))=_ by rw [hf];exact ho)
  | epr o i off b p ho hi=>exact .epr (f o) i off b p (show cx.ar (f (f o))=_ by rw [hf];exact ho) hi
  | mp o b ho=>exact .mp (f o) b (show cx.bx (f (f o))=_ by rw [hf];exact ho)
  | mr b clock es p hav hh hs hd hk hv ihk ihv =>
    have hlt:∀(i:Nat) e,es[i]?=some e→i < C.len p:=by
      intro i e he
      rw [←hs.size]
      rcases Nat.lt_or_ge i es.size with h | h
      · exact h
      · simp [Array.getElem?_eq_none h] at he
    refine .mr b clock es p hav hh hs hd (fun i e he=>?_) fun i e he=>?_
    · have:=ihk i e he
      rwa [ren_closed f _ (hC.mkclo p i (hlt i e he))] at this
    · have:=ihv i e he
      rwa [ren_closed f _ (hC.mvclo p i (hlt i e he))] at this
  | ref b off cs vs hav hcell h1 hrd ih =>
    refine .ref b off _ vs (fun hne=>hav fun e=>hne (by rw [e];rfl)) (fun i c hc=>?_) (fun i c hc=>?_) fun i c hc=>?_
    all_goals
      rw [renL_get] at hc
      obtain ⟨c',hc',rfl⟩:=Option.map_eq_some_iff.1 hc
    · exact hcell i c' hc'
    · exact h1 i c' hc'
    · exact ih i c' hc'
  | fn g g' a b vs cs hs h hm ih =>
    refine .fn g g' a b vs _ (by rw [renL_length];exact hs) (fun i v c hv hc=>?_) hm
    rw [renL_get] at hc
    obtain ⟨c',hc',rfl⟩:=Option.map_eq_some_iff.1 hc
    exact ih i v c' hv hc'
  | ifc t v d h ih=>exact .ifc t v _ ih
  | ifa t v=>exact .ifa t v
  | mrefN cs=>exact .mrefN cs
  | mrefS v cs hc h ih =>
    refine .mrefS v cs hc ?_
    simpa only [Eng.ren,renL_closed f cs hc] using ih
  | ow k v d h ih=>exact .ow k v _ ih
  | bad v=>exact .bad v
theorem look_renH {f:Nat→Nat} (hf:∀o,f (f o)=o) (hs:Obs α) (k:Nat):look (renH f hs) k=(look hs (f k)).map (renOb f):=by
  induction hs with
  | nil=>simp [renH,look]
  | cons p r ih =>
    obtain ⟨n,x⟩:=p
    simp only [renH,look,ih]
    have e:Nat.beq (f n) k=Nat.beq n (f k):=by
      rw [Bool.eq_iff_iff,Nat.beq_eq,Nat.beq_eq]
      constructor
      · intro h;rw [←h,hf]
      · intro h;rw [h,hf]
    rw [e]
    cases Nat.beq n (f k)<;>simp
theorem renOb_fz (f:Nat→Nat) (x:Ob α):(renOb f x).fz=x.fz:=by cases x<;>rfl
theorem cxOf_ren {f:Nat→Nat} (hf:∀o,f (f o)=o) (g:Gh) (hs:Obs α) (w:World):cxOf { g with rho:=fun o=>g.rho (f o) } (renH f hs) w=(cxOf g hs w).ren f:=by
  unfold cxOf Cx.ren
  simp only [Cx.mk.injEq,true_and]
  refine ⟨?_,?_,?_⟩
  · funext b
    refine propext (or_congr Iff.rfl ⟨?_,?_⟩)
    · rintro ⟨o,ob,h1,h2,h3⟩
      rw [look_renH hf] at h1
      obtain ⟨x,hx,rfl⟩:=Option.map_eq_some_iff.1 h1
      exact ⟨f o,x,hx,by rwa [renOb_fz] at h2,h3⟩
    · rintro ⟨o,ob,h1,h2,h3⟩
      exact ⟨f o,renOb f ob,by rw [look_renH hf,hf,h1];rfl,by rw [renOb_fz];exact h2,by rw [hf];exact h3⟩
  · funext o
    rw [look_renH hf]
    cases look hs (f o) with
    | none=>rfl
    | some x=>cases x<;>rfl
  · funext o
    rw [look_renH hf]
    cases look hs (f o) with
    | none=>rfl
    | some x=>cases x<;>rfl
theorem RG.ren {C:Pay α} (hC:PayOk C) {f:Nat→Nat} (hf:∀o,f (f o)=o) {cx:Cx α} {tmps:Array Value} {v:Value} {d:D α} (h:RG C cx tmps v d):RG C (cx.ren f) tmps v (ren f d):=by
  cases d
  case gd ks t d=>exact ⟨fun hk=>⟨(h.1 hk).1,RD.ren hC hf (h.1 hk).2⟩,h.2⟩
  all_goals exact RD.ren hC hf h
theorem ObRel.ren {C:Pay α} (hC:PayOk C) {f:Nat→Nat} (hf:∀o,f (f o)=o) {cx:Cx α} {b:Option Nat} {x:Ob α} (h:ObRel C cx b x):ObRel C (cx.ren f) b (renOb f x):=by
  cases x with
  | box fz cs =>
    obtain ⟨b',cells,T,h1,h2,h3,h4,h5⟩:=h
    refine ⟨b',cells,T,h1,h2,by rw [renL_length];exact h3,h4,fun i v c hv hc=>?_⟩
    rw [renL_get] at hc
    obtain ⟨c',hc',rfl⟩:=Option.map_eq_some_iff.1 hc
    exact RD.ren hC hf (h5 i v c' hv hc')
  | arr fz p =>
    cases b with
    | none=>exact h
    | some b' =>
      obtain ⟨cells,T,h1,h2,h3,h4,h5⟩:=h
      refine ⟨cells,T,h1,h2,h3,h4,fun i j v d hi hv hd=>?_⟩
      have:=RD.ren hC hf (h5 i j v d hi hv hd)
      rwa [ren_closed f d (hC.clo p i d (List.mem_of_getElem? hd))] at this
  | map fz p =>
    obtain ⟨b',es,clock,h1,h2,h3,h4,h5,h6⟩:=h
    have hlt:∀(i:Nat) e,es[i]?=some e→i < C.len p:=by
      intro i e he
      rw [←h3.size]
      rcases Nat.lt_or_ge i es.size with h | h
      · exact h
      · simp [Array.getElem?_eq_none h] at he
    refine ⟨b',es,clock,h1,h2,h3,h4,fun i e he=>?_,fun i e he=>?_⟩
    · have:=RD.ren hC hf (h5 i e he)
      rwa [ren_closed f _ (hC.mkclo p i (hlt i e he))] at this
    · have:=RD.ren hC hf (h6 i e he)
      rwa [ren_closed f _ (hC.mvclo p i (hlt i e he))] at this
variable {X:Ctx α}
theorem Sim.ren (hC:PayOk X.C) {f:Nat→Nat} (hf:∀o,f (f o)=o) (hfix:∀c,Nat.blt c 50000=false→Nat.blt c 100000=true→f c=c) {g:Gh} {S:St α} {a:Act} {w:World} (h:Sim X g S.tm S.hs a w) :
    Sim X { g with rho:=fun o=>g.rho (f o) } (renS f S).tm (renS f S).hs a w where
  size:=by rw [h.size];simp [renS]
  tm:=fun t=>by
    rw [show (renS f S).hs=renH f S.hs from rfl,cxOf_ren hf]
    show RG _ _ _ _ (getT (S.tm.map (Eng.ren f)) t)
    rw [getT_map _ (by simp [Eng.ren])]
    exact RG.ren hC hf (h.tm t)
  dfr:=h.dfr
  obs:=fun o ob ho=>by
    rw [show (renS f S).hs=renH f S.hs from rfl] at ho ⊢
    rw [cxOf_ren hf]
    rw [look_renH hf] at ho
    obtain ⟨x,hx,rfl⟩:=Option.map_eq_some_iff.1 ho
    exact ObRel.ren hC hf (h.obs (f o) x hx)
  inj:=fun o o' ob ob' b h1 h2 h3 h4=>by
    rw [show (renS f S).hs=renH f S.hs from rfl,look_renH hf] at h1 h2
    obtain ⟨x,hx,rfl⟩:=Option.map_eq_some_iff.1 h1
    obtain ⟨y,hy,rfl⟩:=Option.map_eq_some_iff.1 h2
    have:=h.inj (f o) (f o') x y b hx hy h3 h4
    rw [←hf o,←hf o',this]
  own:=fun o ob b h1 h3=>by
    rw [show (renS f S).hs=renH f S.hs from rfl,look_renH hf] at h1
    obtain ⟨x,hx,rfl⟩:=Option.map_eq_some_iff.1 h1
    exact h.own (f o) x b hx h3
  below:=h.below
  av0:=h.av0
  lav:=h.lav
  top:=fun c b hc=>by
    obtain ⟨h1,h2,h3⟩:=h.top c b hc
    refine ⟨h1,h2,fun ob ho=>?_⟩
    rw [show (renS f S).hs=renH f S.hs from rfl,look_renH hf,hfix c h1 h2] at ho
    obtain ⟨x,hx,rfl⟩:=Option.map_eq_some_iff.1 ho
    obtain ⟨k1,k2⟩:=h3 x hx
    refine ⟨by show g.rho (f c)=_;rw [hfix c h1 h2];exact k1,fun fz p e=>?_⟩
    cases x with
    | arr fz' p'=>exact k2 fz' p' rfl
    | box _ _=>simp [renOb] at e
    | map _ _=>simp [renOb] at e
  glob:=h.glob
theorem Sim.order {g:Gh} {tm:List (D α)} {hs hs':Obs α} {a:Act} {w:World} (h:Sim X g tm hs a w) (hl:∀o,look hs' o=look hs o):Sim X g tm hs' a w:=by
  have e:cxOf g hs' w=cxOf g hs w:=by
    unfold cxOf
    simp only [hl]
  exact ⟨h.size,fun t=>by rw [e];exact h.tm t,h.dfr,fun o ob ho=>by rw [e];exact h.obs o ob (by rwa [hl] at ho),fun o o' ob ob' b h1 h2=>h.inj o o' ob ob' b (by rwa [hl] at h1) (by rwa [hl] at h2),
    fun o ob b h1=>h.own o ob b (by rwa [hl] at h1),h.below,h.av0,h.lav,fun c b hc=>⟨(h.top c b hc).1,(h.top c b hc).2.1,fun ob ho=>(h.top c b hc).2.2 ob (by rwa [hl] at ho)⟩,h.glob⟩
def swp (a b o:Nat):Nat:=bif Nat.beq o a then b else bif Nat.beq o b then a else o
theorem swp_swp (a b o:Nat):swp a b (swp a b o)=o:=by
  unfold swp
  cases h1:Nat.beq o a with
  | true =>
    obtain rfl:=Nat.eq_of_beq_eq_true h1
    simp only [cond_true]
    cases h2:Nat.beq b o with
    | true=>exact Nat.eq_of_beq_eq_true h2
    | false=>simp [Nat.beq_refl]
  | false =>
    cases h2:Nat.beq o b with
    | true =>
      obtain rfl:=Nat.eq_of_beq_eq_true h2
      simp [Nat.beq_refl]
    | false=>simp [h1,h2]
def lowN (o:Nat):Bool:=Nat.blt o 50000||!(Nat.blt o 100000)
def canC (c:Nat×Nat×Nat) (S:St α):St α:=match look S.hs c.1 with
  | some (.box _ cs)=>match cs[c.2.1]? with
    | some (.arr o)=>bif lowN o&&lowN c.2.2 then renS (swp o c.2.2) S else S
    | some (.mp o)=>bif lowN o&&lowN c.2.2 then renS (swp o c.2.2) S else S
    | _=>S
  | _=>S
def canS:List (Nat×Nat×Nat)→St α→St α
  | [],S=>S
  | c::r,S=>canS r (canC c S)
def ordH:List Nat→Obs α→Obs α
  | [],_=>[]
  | k::r,hs=>match look hs k with
    | some x=>(k,x)::ordH r hs
    | none=>ordH r hs
def memO:List Nat→Nat→Bool
  | [],_=>false
  | k::r,n=>bif Nat.beq k n then true else memO r n
def allO (ks:List Nat):Obs α→Bool
  | []=>true
  | (n,_)::r=>bif memO ks n then allO ks r else false
def ordS (ks:List Nat) (S:St α):St α:=⟨S.tm,bif allO ks S.hs then ordH ks S.hs else S.hs⟩
theorem look_ordH (hs:Obs α):∀(ks:List Nat) (o:Nat),look (ordH ks hs) o=bif memO ks o then look hs o else none
  | [],o=>rfl
  | k::r,o=>by
    simp only [ordH,memO]
    cases hk:look hs k with
    | none =>
      simp only
      rw [look_ordH hs r o]
      cases hb:Nat.beq k o with
      | true =>
        obtain rfl:=Nat.eq_of_beq_eq_true hb
        simp only [cond_true,hk]
        cases memO r k<;>rfl
      | false=>rfl
    | some x =>
      simp only [look]
      rw [look_ordH hs r o]
      cases hb:Nat.beq k o with
      | true =>
        obtain rfl:=Nat.eq_of_beq_eq_true hb
        simp only [cond_true,hk]
      | false=>rfl
theorem look_notK {ks:List Nat}:∀{hs:Obs α} {o:Nat},allO ks hs=true→memO ks o=false→look hs o=none
  | [],_,_,_=>rfl
  | (n,x)::r,o,h,ho=>by
    simp only [allO] at h
    cases hn:memO ks n with
    | false=>rw [hn] at h;simp at h
    | true =>
      rw [hn,cond_true] at h
      simp only [look]
      cases hb:Nat.beq n o with
      | true=>rw [Nat.eq_of_beq_eq_true hb,ho] at hn;simp at hn
      | false=>exact look_notK h ho
theorem ren_gd {f:Nat→Nat} {d e:D α} {ks:List (Nat×Bool)} {b:Bool} (h:ren f d=.gd ks b e):∃e',d=.gd ks b e':=by
  cases d<;>simp only [ren] at h
  case gd ks' b' d=>simp only [D.gd.injEq] at h;obtain ⟨rfl,rfl,_⟩:=h;exact ⟨_,rfl⟩
  all_goals simp at h
def Weak (X:Ctx α) (S S':St α):Prop:=∀(g:Gh) (a:Act) (w:World),Sim X g S.tm S.hs a w→KeyIn S.tm (fun _=>False)→∃rho',Sim X { g with rho:=rho' } S'.tm S'.hs a w∧KeyIn S'.tm (fun _=>False)
theorem Weak.refl (S:St α):Weak X S S:=fun g _ _ h hk=>⟨g.rho,h,hk⟩
theorem Weak.trans {S S' S'':St α} (h:Weak X S S') (k:Weak X S' S''):Weak X S S'':=fun g a w h1 h2=>by
  obtain ⟨r,h3,h4⟩:=h g a w h1 h2
  obtain ⟨r',h5,h6⟩:=k _ a w h3 h4
  exact ⟨r',h5,h6⟩
theorem Weak.norm (hX:XOk X) (keep ns:Nat→Bool) (S:St α):Weak X S (normS keep ns S):=fun g _ _ hS hK =>
  ⟨g.rho,Sim.mask (S:=⟨_,_⟩) keep (hS.forget hX ns),KeyIn.mask (S:=⟨S.tm.map (kill ns),killH ns (dropA ns S.hs)⟩) keep (hK.kill ns)⟩
theorem Weak.canN (hX:XOk X) (o n:Nat) (S:St α) (hb:(lowN o&&lowN n)=true):Weak X S (renS (swp o n) S):=by
  intro g a w hS hK
  rw [Bool.and_eq_true] at hb
  refine ⟨_,Sim.ren hX.pay (swp_swp _ _) (fun k h1 h2=>?_) hS,?_⟩
  · have hlow:lowN k=false:=by unfold lowN;rw [h1,h2];rfl
    unfold swp
    cases h3:Nat.beq k o with
    | true=>rw [←Nat.eq_of_beq_eq_true h3,hlow] at hb;exact absurd hb.1 (by simp)
    | false =>
      cases h4:Nat.beq k n with
      | true=>rw [←Nat.eq_of_beq_eq_true h4,hlow] at hb;exact absurd hb.2 (by simp)
      | false=>rfl
  · intro t ks b e ht
    have ht:getT (S.tm.map (ren (swp o n))) t=.gd ks b e:=ht
    rw [getT_map _ (by simp [Eng.ren])] at ht
    obtain ⟨e',he⟩:=ren_gd ht
    exact hK t ks b e' he
theorem Weak.can1 (hX:XOk X) (c:Nat×Nat×Nat) (S:St α):Weak X S (canC c S):=by
  unfold canC
  split
  · split
    · rename_i o _
      cases hb:lowN o&&lowN c.2.2 with
      | false=>exact Weak.refl S
      | true=>exact Weak.canN hX o c.2.2 S hb
    · rename_i o _
      cases hb:lowN o&&lowN c.2.2 with
      | false=>exact Weak.refl S
      | true=>exact Weak.canN hX o c.2.2 S hb
    · exact Weak.refl S
  · exact Weak.refl S
theorem Weak.can (hX:XOk X):∀(l:List (Nat×Nat×Nat)) (S:St α),Weak X S (canS l S)
  | [],S=>Weak.refl S
  | c::r,S=>(Weak.can1 hX c S).trans (Weak.can hX r _)
theorem Weak.ord (ks:List Nat) (S:St α):Weak X S (ordS ks S):=fun g a w hS hK=>by
  refine ⟨g.rho,Sim.order hS fun o=>?_,hK⟩
  show look (bif allO ks S.hs then ordH ks S.hs else S.hs) o=_
  cases ha:allO ks S.hs with
  | false=>rfl
  | true =>
    rw [cond_true,look_ordH]
    cases hm:memO ks o with
    | true=>rfl
    | false=>rw [cond_false,look_notK ha hm]
def finS (keep ns:Nat→Bool) (l:List (Nat×Nat×Nat)) (ks:List Nat) (S:St α):St α:=ordS ks (canS l (normS keep ns S))
theorem Goes.weak {code:Code} {S S' S'':St α} {e:Ex} (h:Goes X code S e S') (hw:Weak X S' S''):Goes X code S e S'':=fun g a w hS hK Q hQ =>
  h g a w hS hK Q fun rho' a' w' hS' hK'=>by
    obtain ⟨r,h1,h2⟩:=hw _ a' w' hS' hK'
    exact hQ r a' w' h1 h2
theorem Goes.weakPre {code:Code} {S S' S0:St α} {e:Ex} (hw:Weak X S0 S) (h:Goes X code S e S'):Goes X code S0 e S':=fun g a w hS hK Q hQ=>by
  obtain ⟨r,h1,h2⟩:=hw g a w hS hK
  exact h _ a w h1 h2 Q fun rho' a' w'=>hQ rho' a' w'
theorem Goes.fin (hX:XOk X) {code:Code} {S S':St α} {e:Ex} (keep ns:Nat→Bool) (l:List (Nat×Nat×Nat)) (ks:List Nat) (h:Goes X code S e S'):Goes X code S e (finS keep ns l ks S') :=
  h.weak ((Weak.norm hX keep ns S').trans ((Weak.can hX l _).trans (Weak.ord ks _)))
theorem RDle.tup {C:Pay α} {cs ds:List (D α)} (h:RDles C cs ds):RDle C (.tup cs) (.tup ds):=by
  intro cx v hr
  obtain ⟨h1,h2⟩:=h.spec
  cases hr with
  | tup vs _ hs hr =>
    refine .tup vs ds (hs.trans h1) fun i v c hv hc=>?_
    obtain ⟨e,he,hle⟩:=h2 i c hc
    exact hle cx v (hr i v e hv he)
theorem SoundM.post {P:Program} {C:Pay α} {glob:Nat→Option (List (D α))} {f:FuncId} {H H':Obs α} {ds:List (D α)} {d d':D α} (hle:RDle C d d') (h:SoundM P C glob f H ds d H'):SoundM P C glob f H ds d' H' :=
  fun g vs ht hS hs hr=>(h g vs ht hS hs hr).mono fun _ _ ⟨rho',h1,h2,h3⟩=>⟨rho',h1,hle _ _ h2,h3⟩
def calmD (o:Nat) (p:α):D α→D α
  | .arr k=>bif Nat.beq k o then .pl p .any else .arr k
  | d=>d
def calm1 (o:Nat) (S:St α):St α:=match look S.hs o with
  | some (.arr _ p)=>⟨S.tm.map (calmD o p),freeze S.hs [o]⟩
  | _=>S
def calmS:List Nat→St α→St α
  | [],S=>S
  | o::r,S=>calmS r (calm1 o S)
theorem Weak.calm1 (hX:XOk X) (o:Nat) (S:St α):Weak X S (calm1 o S):=by
  unfold Eng.calm1
  split
  · rename_i fz p hlo
    intro g a w hS hK
    obtain ⟨hs1,_⟩:=sim_freeze hX hS [o]
    refine ⟨g.rho,⟨by rw [hs1.size,List.length_map],fun t=>?_,hs1.dfr,hs1.obs,hs1.inj,hs1.own,hs1.below,hs1.av0,hs1.lav,hs1.top,hs1.glob⟩,fun t ks b e ht=>?_⟩
    · have h0:=hs1.tm t
      have hx:=hS.tm t
      rw [getT_map _ rfl]
      cases hd:getT S.tm t<;>rw [hd] at h0 hx<;>simp only [calmD]<;>try exact h0
      rename_i k
      cases hk:Nat.beq k o with
      | false=>exact h0
      | true =>
        obtain rfl:=Nat.eq_of_beq_eq_true hk
        have hx0:=(lend_sound hX hS (avBut g S.hs w [k]) avBut_av 40).1 (.arr k) _ (.pl p .any) [k] hx (by simp [lend,hlo]) avBut_ns
        exact RD.closedTo hX.pay (frozen_of_out hS) rfl hx0
    · have ht:getT (S.tm.map (calmD o p)) t=.gd ks b e:=ht
      rw [getT_map _ rfl] at ht
      refine hK t ks b e ?_
      cases hd:getT S.tm t<;>rw [hd] at ht<;>simp only [calmD] at ht<;>try exact ht
      rename_i k
      cases hk:Nat.beq k o<;>rw [hk] at ht<;>simp at ht
  · exact Weak.refl S
theorem Weak.calm (hX:XOk X):∀(l:List Nat) (S:St α),Weak X S (calmS l S)
  | [],S=>Weak.refl S
  | o::r,S=>(Weak.calm1 hX o S).trans (Weak.calm hX r _)
end Go.Eng
