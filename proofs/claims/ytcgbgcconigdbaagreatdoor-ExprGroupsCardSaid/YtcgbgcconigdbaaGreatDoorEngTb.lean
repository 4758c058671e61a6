/-
 THE ENGINE: REGIONS, ONE OPERATION AT A TIME, with whatever invariant: operations that the engine knows, and others that are shown by hand.
-/
import Derived.Test.YtcgbgcconigdbaaGreatDoorEngZ
import Derived.Orders
namespace Go.Eng
open Go.RowKit
variable {α:Type}
mutual
def ren (f:Nat→Nat):D α→D α
 | .arr o=>.arr (f o)
 | .ptr o off=>.ptr (f o) off
 | .epr o i off=>.epr (f o) i off
 | .mp o=>.mp (f o)
 | .agg cs=>.agg (renL f cs)
 | .tup cs=>.tup (renL f cs)
 | .ref cs=>.ref (renL f cs)
 | .fn g cs=>.fn g (renL f cs)
 | .ifc t d=>.ifc t (ren f d)
 | .gd ks t d=>.gd ks t (ren f d)
 | .ow k d=>.ow k (ren f d)
 | d=>d
def renL (f:Nat→Nat):List (D α)→List (D α)
 | []=>[]
 | d::r=>ren f d::renL f r
end
def renOb (f:Nat→Nat):Ob α→Ob α
 | .box fz cs=>.box fz (renL f cs)
 | x=>x
def renH (f:Nat→Nat):Obs α→Obs α
 | []=>[]
 | (n,x)::r=>(f n,renOb f x)::renH f r
def renS (f:Nat→Nat) (S:St α):St α:=⟨S.tm.map (ren f),renH f S.hs⟩
theorem renL_get (f:Nat→Nat):∀(cs:List (D α)) (i:Nat),(renL f cs)[i]?=(cs[i]?).map (ren f)
 | [],i=>by simp [renL]
 | d::r,0=>by simp [renL]
 | d::r,i+1=>by simp [renL,renL_get f r i]
theorem renL_length (f:Nat→Nat):∀(cs:List (D α)),(renL f cs).length=cs.length
 | []=>by simp [renL]
 | d::r=>by simp [renL,renL_length f r]
mutual
theorem ren_closed (f:Nat→Nat):∀(d:D α),closed d=true→ren f d=d
 | .bool _,_ | .int _ _,_ | .str _,_ | .nilP,_ | .nilS,_ | .nilF,_ | .nilI,_ | .nilM,_ | .lit _,_ | .pl _ _,_ | .mr _,_ | .ifa,_ | .num,_ | .mref _ _,_ | .bad,_ | .obB _ _,_ | .obA _ _,_ | .obM _ _,_ | .env _ _,_=>by simp [ren]
 | .arr _,h | .ptr _ _,h | .epr _ _ _,h | .mp _,h | .gd _ _ _,h=>by simp [closed] at h
 | .agg cs,h=>by simp only [closed] at h;simp [ren,renL_closed f cs h]
 | .tup cs,h=>by simp only [closed] at h;simp [ren,renL_closed f cs h]
 | .ref cs,h=>by simp only [closed] at h;simp [ren,renL_closed f cs h]
 | .fn g cs,h=>by simp only [closed] at h;simp [ren,renL_closed f cs h]
 | .ifc t d,h=>by simp only [closed] at h;simp [ren,ren_closed f d h]
 | .ow k d,h=>by simp only [closed] at h;simp [ren,ren_closed f d h]
theorem renL_closed (f:Nat→Nat):∀(cs:List (D α)),closedL cs=true→renL f cs=cs
 | [],_=>by simp [renL]
 | d::r,h=>by
  simp only [closedL,Bool.and_eq_true] at h
  simp [renL,ren_closed f d h.1,renL_closed f r h.2]
end
def Cx.ren (f:Nat→Nat) (cx:Cx α):Cx α:=⟨cx.w,cx.av,fun o=>cx.bx (f o),fun o=>cx.ar (f o)⟩
theorem RD.ren {C:Pay α} (hC:PayOk C) {f:Nat→Nat} (hf:∀o,f (f o)=o) {cx:Cx α} {v:Value} {d:D α} (h:RD C cx v d):RD C (cx.ren f) v (ren f d):=by
 induction h with
 | bool b=>exact .bool b
 | int k n h=>exact .int k n h
 | str s l h hl=>exact .str s l h hl
 | nilP=>exact .nilP
 | nilS=>exact .nilS
 | nilF=>exact .nilF
 | nilI=>exact .nilI
 | nilM=>exact .nilM
 | lit v=>exact .lit v
 | agg vs cs hs h1 h ih =>
  refine .agg vs _ (by rw [renL_length];exact hs) h1 fun i v c hv hc=>?_
  rw [renL_get] at hc
  obtain ⟨c',hc',rfl⟩:=Option.map_eq_some_iff.1 hc
  exact ih i v c' hv hc'
 | tup vs cs hs h ih =>
  refine .tup vs _ (by rw [renL_length];exact hs) fun i v c hv hc=>?_
  rw [renL_get] at hc
  obtain ⟨c',hc',rfl⟩:=Option.map_eq_some_iff.1 hc
  exact ih i v c' hv hc'
 | pl0 a c p k hl hk hsp=>exact .pl0 a c p k hl hk hsp
 | pl b off n c p k vs hn hc hb hk hav hcell h1 hrd hsp hal ih =>
  refine .pl b off n c p k vs hn hc hb hk hav hcell h1 (fun i j d hi hd=>?_) hsp hal
  have:=ih i j d hi hd
  rwa [ren_closed f d (hC.clo p i d (List.mem_of_getElem? hd))] at this
 | arrO o b p n c ho hn hc hsz=>exact .arrO (f o) b p n c (show cx.ar (f (f o))=_ by rw [hf];exact ho) hn hc hsz
 | arrN o p a ho hn=>exact .arrN (f o) p a (show cx.ar (f (f o))=_ by rw [hf];exact ho) hn
 | ptr o off b ho=>exact .ptr (f o) off b (show cx.bx (f (f o))=_ by rw [hf];exact ho)
 | epr o i off b p ho hi=>exact .epr (f o) i off b p (show cx.ar (f (f o))=_ by rw [hf];exact ho) hi
 | mp o b ho=>exact .mp (f o) b (show cx.bx (f (f o))=_ by rw [hf];exact ho)
 | mr b clock es p hav hh hs hd hk hv ihk ihv =>
  have hlt:∀(i:Nat) e,es[i]?=some e→i < C.len p:=by
   intro i e he
   rw [←hs.size]
   rcases Nat.lt_or_ge i es.size with h | h
   ·exact h
   ·simp [Array.getElem?_eq_none h] at he
  refine .mr b clock es p hav hh hs hd (fun i e he=>?_) fun i e he=>?_
  ·have:=ihk i e he
   rwa [ren_closed f _ (hC.mkclo p i (hlt i e he))] at this
  ·have:=ihv i e he
   rwa [ren_closed f _ (hC.mvclo p i (hlt i e he))] at this
 | ref b off cs vs hav hcell h1 hrd ih =>
  refine .ref b off _ vs (fun hne=>hav fun e=>hne (by rw [e];rfl)) (fun i c hc=>?_) (fun i c hc=>?_) fun i c hc=>?_
  all_goals
   rw [renL_get] at hc
   obtain ⟨c',hc',rfl⟩:=Option.map_eq_some_iff.1 hc
  ·exact hcell i c' hc'
  ·exact h1 i c' hc'
  ·exact ih i c' hc'
 | fn g g' a b vs cs hs h hm ih =>
  refine .fn g g' a b vs _ (by rw [renL_length];exact hs) (fun i v c hv hc=>?_) hm
  rw [renL_get] at hc
  obtain ⟨c',hc',rfl⟩:=Option.map_eq_some_iff.1 hc
  exact ih i v c' hv hc'
 | ifc t v d h ih=>exact .ifc t v _ ih
 | ifa t v=>exact .ifa t v
 | num n h=>exact .num n h
 | mrefN cs=>exact .mrefN cs
 | mrefS v cs hc h ih =>
  refine .mrefS v cs hc ?_
  simpa only [Eng.ren,renL_closed f cs hc] using ih
 | ow k v d h ih=>exact .ow k v _ ih
 | bad v=>exact .bad v
theorem look_renH {f:Nat→Nat} (hf:∀o,f (f o)=o) (hs:Obs α) (k:Nat):look (renH f hs) k=(look hs (f k)).map (renOb f):=by
 induction hs with
 | nil=>simp [renH,look]
 | cons p r ih =>
  obtain ⟨n,x⟩:=p
  simp only [renH,look,ih]
  have e:Nat.beq (f n) k=Nat.beq n (f k):=by
   rw [Bool.eq_iff_iff,Nat.beq_eq,Nat.beq_eq]
   constructor
   ·intro h;rw [←h,hf]
   ·intro h;rw [h,hf]
  rw [e]
  cases Nat.beq n (f k)<;>simp
theorem renOb_fz (f:Nat→Nat) (x:Ob α):(renOb f x).fz=x.fz:=by cases x<;>rfl
theorem cxOf_ren {f:Nat→Nat} (hf:∀o,f (f o)=o) (g:Gh) (hs:Obs α) (w:World):cxOf { g with rho:=fun o=>g.rho (f o) } (renH f hs) w=(cxOf g hs w).ren f:=by
 unfold cxOf Cx.ren
 simp only [Cx.mk.injEq,true_and]
 refine ⟨?_,?_,?_⟩
 ·funext b
  refine propext (or_congr Iff.rfl ⟨?_,?_⟩)
  ·rintro ⟨o,ob,h1,h2,h3⟩
   rw [look_renH hf] at h1
   obtain ⟨x,hx,rfl⟩:=Option.map_eq_some_iff.1 h1
   exact ⟨f o,x,hx,by rwa [renOb_fz] at h2,h3⟩
  ·rintro ⟨o,ob,h1,h2,h3⟩
   exact ⟨f o,renOb f ob,by rw [look_renH hf,hf,h1];rfl,by rw [renOb_fz];exact h2,by rw [hf];exact h3⟩
 ·funext o
  rw [look_renH hf]
  cases look hs (f o) with
  | none=>rfl
  | some x=>cases x<;>rfl
 ·funext o
  rw [look_renH hf]
  cases look hs (f o) with
  | none=>rfl
  | some x=>cases x<;>rfl
theorem RG.ren {C:Pay α} (hC:PayOk C) {f:Nat→Nat} (hf:∀o,f (f o)=o) {cx:Cx α} {tmps:Array Value} {v:Value} {d:D α} (h:RG C cx tmps v d):RG C (cx.ren f) tmps v (ren f d):=by
 cases d
 case gd ks t d=>exact ⟨fun hk=>⟨(h.1 hk).1,RD.ren hC hf (h.1 hk).2⟩,h.2⟩
 all_goals exact RD.ren hC hf h
theorem ObRel.ren {C:Pay α} (hC:PayOk C) {f:Nat→Nat} (hf:∀o,f (f o)=o) {cx:Cx α} {b:Option Nat} {x:Ob α} (h:ObRel C cx b x):ObRel C (cx.ren f) b (renOb f x):=by
 cases x with
 | box fz cs =>
  obtain ⟨b',cells,T,h1,h2,h3,h4,h5⟩:=h
  refine ⟨b',cells,T,h1,h2,by rw [renL_length];exact h3,h4,fun i v c hv hc=>?_⟩
  rw [renL_get] at hc
  obtain ⟨c',hc',rfl⟩:=Option.map_eq_some_iff.1 hc
  exact RD.ren hC hf (h5 i v c' hv hc')
 | arr fz p =>
  cases b with
  | none=>exact h
  | some b' =>
   obtain ⟨cells,T,h1,h2,h3,h4,h5⟩:=h
   refine ⟨cells,T,h1,h2,h3,h4,fun i j v d hi hv hd=>?_⟩
   have:=RD.ren hC hf (h5 i j v d hi hv hd)
   rwa [ren_closed f d (hC.clo p i d (List.mem_of_getElem? hd))] at this
 | map fz p =>
  obtain ⟨b',es,clock,h1,h2,h3,h4,h5,h6⟩:=h
  have hlt:∀(i:Nat) e,es[i]?=some e→i < C.len p:=by
   intro i e he
   rw [←h3.size]
   rcases Nat.lt_or_ge i es.size with h | h
   ·exact h
   ·simp [Array.getElem?_eq_none h] at he
  refine ⟨b',es,clock,h1,h2,h3,h4,fun i e he=>?_,fun i e he=>?_⟩
  ·have:=RD.ren hC hf (h5 i e he)
   rwa [ren_closed f _ (hC.mkclo p i (hlt i e he))] at this
  ·have:=RD.ren hC hf (h6 i e he)
   rwa [ren_closed f _ (hC.mvclo p i (hlt i e he))] at this
variable {X:Ctx α}
theorem Sim.ren (hC:PayOk X.C) {f:Nat→Nat} (hf:∀o,f (f o)=o) (hfix:∀c,Nat.blt c 50000=false→Nat.blt c 100000=true→f c=c) {g:Gh} {S:St α} {a:Act} {w:World} (h:Sim X g S.tm S.hs a w) :
  Sim X { g with rho:=fun o=>g.rho (f o) } (renS f S).tm (renS f S).hs a w where
 size:=by rw [h.size];simp [renS]
 tm:=fun t=>by
  rw [show (renS f S).hs=renH f S.hs from rfl,cxOf_ren hf]
  show RG _ _ _ _ (getT (S.tm.map (Eng.ren f)) t)
  rw [getT_map _ (by simp [Eng.ren])]
  exact RG.ren hC hf (h.tm t)
 dfr:=h.dfr
 obs:=fun o ob ho=>by
  rw [show (renS f S).hs=renH f S.hs from rfl] at ho ⊢
  rw [cxOf_ren hf]
  rw [look_renH hf] at ho
  obtain ⟨x,hx,rfl⟩:=Option.map_eq_some_iff.1 ho
  exact ObRel.ren hC hf (h.obs (f o) x hx)
 inj:=fun o o' ob ob' b h1 h2 h3 h4=>by
  rw [show (renS f S).hs=renH f S.hs from rfl,look_renH hf] at h1 h2
  obtain ⟨x,hx,rfl⟩:=Option.map_eq_some_iff.1 h1
  obtain ⟨y,hy,rfl⟩:=Option.map_eq_some_iff.1 h2
  have:=h.inj (f o) (f o') x y b hx hy h3 h4
  rw [←hf o,←hf o',this]
 own:=fun o ob b h1 h3=>by
  rw [show (renS f S).hs=renH f S.hs from rfl,look_renH hf] at h1
  obtain ⟨x,hx,rfl⟩:=Option.map_eq_some_iff.1 h1
  exact h.own (f o) x b hx h3
 below:=h.below
 av0:=h.av0
 lav:=h.lav
 top:=fun c b hc=>by
  obtain ⟨h1,h2,h3⟩:=h.top c b hc
  refine ⟨h1,h2,fun ob ho=>?_⟩
  rw [show (renS f S).hs=renH f S.hs from rfl,look_renH hf,hfix c h1 h2] at ho
  obtain ⟨x,hx,rfl⟩:=Option.map_eq_some_iff.1 ho
  obtain ⟨k1,k2⟩:=h3 x hx
  refine ⟨by show g.rho (f c)=_;rw [hfix c h1 h2];exact k1,fun fz p e=>?_⟩
  cases x with
  | arr fz' p'=>exact k2 fz' p' rfl
  | box _ _=>simp [renOb] at e
  | map _ _=>simp [renOb] at e
 glob:=h.glob
theorem Sim.order {g:Gh} {tm:List (D α)} {hs hs':Obs α} {a:Act} {w:World} (h:Sim X g tm hs a w) (hl:∀o,look hs' o=look hs o):Sim X g tm hs' a w:=by
 have e:cxOf g hs' w=cxOf g hs w:=by
  unfold cxOf
  simp only [hl]
 exact ⟨h.size,fun t=>by rw [e];exact h.tm t,h.dfr,fun o ob ho=>by rw [e];exact h.obs o ob (by rwa [hl] at ho),fun o o' ob ob' b h1 h2=>h.inj o o' ob ob' b (by rwa [hl] at h1) (by rwa [hl] at h2),
  fun o ob b h1=>h.own o ob b (by rwa [hl] at h1),h.below,h.av0,h.lav,fun c b hc=>⟨(h.top c b hc).1,(h.top c b hc).2.1,fun ob ho=>(h.top c b hc).2.2 ob (by rwa [hl] at ho)⟩,h.glob⟩
def swp (a b o:Nat):Nat:=bif Nat.beq o a then b else bif Nat.beq o b then a else o
theorem swp_swp (a b o:Nat):swp a b (swp a b o)=o:=by
 unfold swp
 cases h1:Nat.beq o a with
 | true =>
  obtain rfl:=Nat.eq_of_beq_eq_true h1
  simp only [cond_true]
  cases h2:Nat.beq b o with
  | true=>exact Nat.eq_of_beq_eq_true h2
  | false=>simp [Nat.beq_refl]
 | false =>
  cases h2:Nat.beq o b with
  | true =>
   obtain rfl:=Nat.eq_of_beq_eq_true h2
   simp [Nat.beq_refl]
  | false=>simp [h1,h2]
def lowN (o:Nat):Bool:=Nat.blt o 50000||!(Nat.blt o 100000)
def canC (c:Nat×Nat×Nat) (S:St α):St α:=match look S.hs c.1 with
 | some (.box _ cs)=>match cs[c.2.1]? with
  | some (.arr o)=>bif lowN o&&lowN c.2.2 then renS (swp o c.2.2) S else S
  | some (.mp o)=>bif lowN o&&lowN c.2.2 then renS (swp o c.2.2) S else S
  | _=>S
 | _=>S
def canS:List (Nat×Nat×Nat)→St α→St α
 | [],S=>S
 | c::r,S=>canS r (canC c S)
def ordH:List Nat→Obs α→Obs α
 | [],_=>[]
 | k::r,hs=>match look hs k with
  | some x=>(k,x)::ordH r hs
  | none=>ordH r hs
def memO:List Nat→Nat→Bool
 | [],_=>false
 | k::r,n=>bif Nat.beq k n then true else memO r n
def allO (ks:List Nat):Obs α→Bool
 | []=>true
 | (n,_)::r=>bif memO ks n then allO ks r else false
def ordS (ks:List Nat) (S:St α):St α:=⟨S.tm,bif allO ks S.hs then ordH ks S.hs else S.hs⟩
theorem look_ordH (hs:Obs α):∀(ks:List Nat) (o:Nat),look (ordH ks hs) o=bif memO ks o then look hs o else none
 | [],o=>rfl
 | k::r,o=>by
  simp only [ordH,memO]
  cases hk:look hs k with
  | none =>
   simp only
   rw [look_ordH hs r o]
   cases hb:Nat.beq k o with
   | true =>
    obtain rfl:=Nat.eq_of_beq_eq_true hb
    simp only [cond_true,hk]
    cases memO r k<;>rfl
   | false=>rfl
  | some x =>
   simp only [look]
   rw [look_ordH hs r o]
   cases hb:Nat.beq k o with
   | true =>
    obtain rfl:=Nat.eq_of_beq_eq_true hb
    simp only [cond_true,hk]
   | false=>rfl
theorem look_notK {ks:List Nat}:∀{hs:Obs α} {o:Nat},allO ks hs=true→memO ks o=false→look hs o=none
 | [],_,_,_=>rfl
 | (n,x)::r,o,h,ho=>by
  simp only [allO] at h
  cases hn:memO ks n with
  | false=>rw [hn] at h;simp at h
  | true =>
   rw [hn,cond_true] at h
   simp only [look]
   cases hb:Nat.beq n o with
   | true=>rw [Nat.eq_of_beq_eq_true hb,ho] at hn;simp at hn
   | false=>exact look_notK h ho
theorem ren_gd {f:Nat→Nat} {d e:D α} {ks:List (Nat×Bool)} {b:Bool} (h:ren f d=.gd ks b e):∃e',d=.gd ks b e':=by
 cases d<;>simp only [ren] at h
 case gd ks' b' d=>simp only [D.gd.injEq] at h;obtain ⟨rfl,rfl,_⟩:=h;exact ⟨_,rfl⟩
 all_goals simp at h
def Weak (X:Ctx α) (S S':St α):Prop:=∀(g:Gh) (a:Act) (w:World),Sim X g S.tm S.hs a w→KeyIn S.tm (fun _=>False)→∃rho',Sim X { g with rho:=rho' } S'.tm S'.hs a w∧KeyIn S'.tm (fun _=>False)
theorem Weak.refl (S:St α):Weak X S S:=fun g _ _ h hk=>⟨g.rho,h,hk⟩
theorem Weak.trans {S S' S'':St α} (h:Weak X S S') (k:Weak X S' S''):Weak X S S'':=fun g a w h1 h2=>by
 obtain ⟨r,h3,h4⟩:=h g a w h1 h2
 obtain ⟨r',h5,h6⟩:=k _ a w h3 h4
 exact ⟨r',h5,h6⟩
theorem Weak.norm (hX:XOk X) (keep ns:Nat→Bool) (S:St α):Weak X S (normS keep ns S):=fun g _ _ hS hK =>
 ⟨g.rho,Sim.mask (S:=⟨_,_⟩) keep (hS.forget hX ns),KeyIn.mask (S:=⟨S.tm.map (kill ns),killH ns (dropA ns S.hs)⟩) keep (hK.kill ns)⟩
theorem Weak.canN (hX:XOk X) (o n:Nat) (S:St α) (hb:(lowN o&&lowN n)=true):Weak X S (renS (swp o n) S):=by
 intro g a w hS hK
 rw [Bool.and_eq_true] at hb
 refine ⟨_,Sim.ren hX.pay (swp_swp _ _) (fun k h1 h2=>?_) hS,?_⟩
 ·have hlow:lowN k=false:=by unfold lowN;rw [h1,h2];rfl
  unfold swp
  cases h3:Nat.beq k o with
  | true=>rw [←Nat.eq_of_beq_eq_true h3,hlow] at hb;exact absurd hb.1 (by simp)
  | false =>
   cases h4:Nat.beq k n with
   | true=>rw [←Nat.eq_of_beq_eq_true h4,hlow] at hb;exact absurd hb.2 (by simp)
   | false=>rfl
 ·intro t ks b e ht
  have ht:getT (S.tm.map (ren (swp o n))) t=.gd ks b e:=ht
  rw [getT_map _ (by simp [Eng.ren])] at ht
  obtain ⟨e',he⟩:=ren_gd ht
  exact hK t ks b e' he
theorem Weak.can1 (hX:XOk X) (c:Nat×Nat×Nat) (S:St α):Weak X S (canC c S):=by
 unfold canC
 split
 ·split
  ·rename_i o _
   cases hb:lowN o&&lowN c.2.2 with
   | false=>exact Weak.refl S
   | true=>exact Weak.canN hX o c.2.2 S hb
  ·rename_i o _
   cases hb:lowN o&&lowN c.2.2 with
   | false=>exact Weak.refl S
   | true=>exact Weak.canN hX o c.2.2 S hb
  ·exact Weak.refl S
 ·exact Weak.refl S
theorem Weak.can (hX:XOk X):∀(l:List (Nat×Nat×Nat)) (S:St α),Weak X S (canS l S)
 | [],S=>Weak.refl S
 | c::r,S=>(Weak.can1 hX c S).trans (Weak.can hX r _)
theorem Weak.ord (ks:List Nat) (S:St α):Weak X S (ordS ks S):=fun g a w hS hK=>by
 refine ⟨g.rho,Sim.order hS fun o=>?_,hK⟩
 show look (bif allO ks S.hs then ordH ks S.hs else S.hs) o=_
 cases ha:allO ks S.hs with
 | false=>rfl
 | true =>
  rw [cond_true,look_ordH]
  cases hm:memO ks o with
  | true=>rfl
  | false=>rw [cond_false,look_notK ha hm]
def finS (keep ns:Nat→Bool) (l:List (Nat×Nat×Nat)) (ks:List Nat) (S:St α):St α:=ordS ks (canS l (normS keep ns S))
theorem Goes.weak {code:Code} {S S' S'':St α} {e:Ex} (h:Goes X code S e S') (hw:Weak X S' S''):Goes X code S e S'':=fun g a w hS hK Q hQ =>
 h g a w hS hK Q fun rho' a' w' hS' hK'=>by
  obtain ⟨r,h1,h2⟩:=hw _ a' w' hS' hK'
  exact hQ r a' w' h1 h2
theorem Goes.weakPre {code:Code} {S S' S0:St α} {e:Ex} (hw:Weak X S0 S) (h:Goes X code S e S'):Goes X code S0 e S':=fun g a w hS hK Q hQ=>by
 obtain ⟨r,h1,h2⟩:=hw g a w hS hK
 exact h _ a w h1 h2 Q fun rho' a' w'=>hQ rho' a' w'
theorem Goes.fin (hX:XOk X) {code:Code} {S S':St α} {e:Ex} (keep ns:Nat→Bool) (l:List (Nat×Nat×Nat)) (ks:List Nat) (h:Goes X code S e S'):Goes X code S e (finS keep ns l ks S') :=
 h.weak ((Weak.norm hX keep ns S').trans ((Weak.can hX l _).trans (Weak.ord ks _)))
theorem RDle.tup {C:Pay α} {cs ds:List (D α)} (h:RDles C cs ds):RDle C (.tup cs) (.tup ds):=by
 intro cx v hr
 obtain ⟨h1,h2⟩:=h.spec
 cases hr with
 | tup vs _ hs hr =>
  refine .tup vs ds (hs.trans h1) fun i v c hv hc=>?_
  obtain ⟨e,he,hle⟩:=h2 i c hc
  exact hle cx v (hr i v e hv he)
theorem SoundM.post {P:Program} {C:Pay α} {glob:Nat→Option (List (D α))} {f:FuncId} {H H':Obs α} {ds:List (D α)} {d d':D α} (hle:RDle C d d') (h:SoundM P C glob f H ds d H'):SoundM P C glob f H ds d' H' :=
 fun g vs ht hS hs hr=>(h g vs ht hS hs hr).mono fun _ _ ⟨rho',h1,h2,h3⟩=>⟨rho',h1,hle _ _ h2,h3⟩
def calmD (o:Nat) (p:α):D α→D α
 | .arr k=>bif Nat.beq k o then .pl p .any else .arr k
 | d=>d
def calm1 (o:Nat) (S:St α):St α:=match look S.hs o with
 | some (.arr _ p)=>⟨S.tm.map (calmD o p),freeze S.hs [o]⟩
 | _=>S
def calmS:List Nat→St α→St α
 | [],S=>S
 | o::r,S=>calmS r (calm1 o S)
theorem Weak.calm1 (hX:XOk X) (o:Nat) (S:St α):Weak X S (calm1 o S):=by
 unfold Eng.calm1
 split
 ·rename_i fz p hlo
  intro g a w hS hK
  obtain ⟨hs1,_⟩:=sim_freeze hX hS [o]
  refine ⟨g.rho,⟨by rw [hs1.size,List.length_map],fun t=>?_,hs1.dfr,hs1.obs,hs1.inj,hs1.own,hs1.below,hs1.av0,hs1.lav,hs1.top,hs1.glob⟩,fun t ks b e ht=>?_⟩
  ·have h0:=hs1.tm t
   have hx:=hS.tm t
   rw [getT_map _ rfl]
   cases hd:getT S.tm t<;>rw [hd] at h0 hx<;>simp only [calmD]<;>try exact h0
   rename_i k
   cases hk:Nat.beq k o with
   | false=>exact h0
   | true =>
    obtain rfl:=Nat.eq_of_beq_eq_true hk
    have hx0:=(lend_sound hX hS (avBut g S.hs w [k]) avBut_av 40).1 (.arr k) _ (.pl p .any) [k] hx (by simp [lend,hlo]) avBut_ns
    exact RD.closedTo hX.pay (frozen_of_out hS) rfl hx0
  ·have ht:getT (S.tm.map (calmD o p)) t=.gd ks b e:=ht
   rw [getT_map _ rfl] at ht
   refine hK t ks b e ?_
   cases hd:getT S.tm t<;>rw [hd] at ht<;>simp only [calmD] at ht<;>try exact ht
   rename_i k
   cases hk:Nat.beq k o<;>rw [hk] at ht<;>simp at ht
 ·exact Weak.refl S
theorem Weak.calm (hX:XOk X):∀(l:List Nat) (S:St α),Weak X S (calmS l S)
 | [],S=>Weak.refl S
 | o::r,S=>(Weak.calm1 hX o S).trans (Weak.calm hX r _)
end Go.Eng
namespace Go.Eng
open Go.RowKit
variable {α:Type} {X:Ctx α}
def mapOb (f:Nat→D α→D α):Ob α→Ob α
 | .box fz cs=>.box fz (cs.mapIdx f)
 | x=>x
def mapH (f:Nat→Nat→D α→D α):Obs α→Obs α
 | []=>[]
 | (n,x)::r=>(n,mapOb (f n) x)::mapH f r
theorem look_mapH (f:Nat→Nat→D α→D α):∀(hs:Obs α) (k:Nat),look (mapH f hs) k=(look hs k).map (mapOb (f k))
 | [],k=>rfl
 | (n,x)::r,k=>by
  simp only [mapH,look]
  cases hb:Nat.beq n k with
  | true=>obtain rfl:=Nat.eq_of_beq_eq_true hb;rfl
  | false=>exact look_mapH f r k
theorem mapOb_fz (f:Nat→D α→D α) (x:Ob α):(mapOb f x).fz=x.fz:=by cases x<;>rfl
theorem cxOf_mapH (f:Nat→Nat→D α→D α) (g:Gh) (hs:Obs α) (w:World):cxOf g (mapH f hs) w=cxOf g hs w:=by
 unfold cxOf
 simp only [Cx.mk.injEq,true_and]
 refine ⟨?_,?_,?_⟩
 ·funext b
  refine propext (or_congr Iff.rfl ⟨?_,?_⟩)
  ·rintro ⟨o,ob,h1,h2,h3⟩
   rw [look_mapH] at h1
   obtain ⟨x,hx,rfl⟩:=Option.map_eq_some_iff.1 h1
   exact ⟨o,x,hx,by rwa [mapOb_fz] at h2,h3⟩
  ·rintro ⟨o,ob,h1,h2,h3⟩
   exact ⟨o,mapOb (f o) ob,by rw [look_mapH,h1];rfl,by rw [mapOb_fz];exact h2,h3⟩
 ·funext o
  rw [look_mapH]
  cases look hs o with
  | none=>rfl
  | some x=>cases x<;>rfl
 ·funext o
  rw [look_mapH]
  cases look hs o with
  | none=>rfl
  | some x=>cases x<;>rfl
theorem Sim.turned {g:Gh} {tm:List (D α)} {hs:Obs α} {a:Act} {w:World} (h:Sim X g tm hs a w) (f:Nat→D α→D α) (F:Nat→Nat→D α→D α) (hb:∀t,f t .bad=.bad)
    (hf:∀t v,RG X.C (cxOf g hs w) a.tmps v (getT tm t)→RG X.C (cxOf g hs w) a.tmps v (f t (getT tm t))) (hF:∀n i v d,RD X.C (cxOf g hs w) v d→RD X.C (cxOf g hs w) v (F n i d)) :
    Sim X g (tm.mapIdx f) (mapH F hs) a w where
  size:=by rw [h.size];simp
  tm := fun t => by
    rw [cxOf_mapH]
    have e:getT (tm.mapIdx f) t=f t (getT tm t):=by
      have key:∀(l:List (D α)) (t:Nat) (f:Nat→D α→D α),(∀t,f t .bad=.bad)→getT (l.mapIdx f) t=f t (getT l t):=by
        intro l
        induction l with
        | nil=>intro t f hb;simp [getT,hb]
        | cons d r ih =>
          intro t f hb
          cases t with
          | zero=>simp [getT]
          | succ t =>
            simp only [List.mapIdx_cons,getT]
            exact ih t (fun i=>f (i+1)) (fun i=>hb (i+1))
      exact key tm t f hb
    rw [e]
    exact hf t _ (h.tm t)
  dfr:=h.dfr
  obs:=fun o ob ho=>by
    rw [cxOf_mapH]
    rw [look_mapH] at ho
    obtain ⟨x,hx,rfl⟩:=Option.map_eq_some_iff.1 ho
    have h0:=h.obs o x hx
    cases x with
    | box fz cs =>
      obtain ⟨b',cells,T,h1,h2,h3,h4,h5⟩:=h0
      refine ⟨b',cells,T,h1,h2,by simpa using h3,h4,fun i v c hv hc=>?_⟩
      rw [List.getElem?_mapIdx] at hc
      obtain ⟨c',hc',rfl⟩:=Option.map_eq_some_iff.1 hc
      exact hF o i v c' (h5 i v c' hv hc')
    | arr fz p=>exact h0
    | map fz p=>exact h0
  inj:=fun o o' ob ob' b h1 h2 h3 h4=>by
    rw [look_mapH] at h1 h2
    obtain ⟨x,hx,rfl⟩:=Option.map_eq_some_iff.1 h1
    obtain ⟨y,hy,rfl⟩:=Option.map_eq_some_iff.1 h2
    exact h.inj o o' x y b hx hy h3 h4
  own:=fun o ob b h1 h3=>by
    rw [look_mapH] at h1
    obtain ⟨x,hx,rfl⟩:=Option.map_eq_some_iff.1 h1
    exact h.own o x b hx h3
  below:=h.below
  av0:=h.av0
  lav:=h.lav
  top:=fun c b hc=>by
    obtain ⟨h1,h2,h3⟩:=h.top c b hc
    refine ⟨h1,h2,fun ob ho=>?_⟩
    rw [look_mapH] at ho
    obtain ⟨x,hx,rfl⟩:=Option.map_eq_some_iff.1 ho
    obtain ⟨k1,k2⟩:=h3 x hx
    refine ⟨k1,fun fz p e=>?_⟩
    cases x with
    | arr fz' p'=>exact k2 fz' p' rfl
    | box _ _=>simp [mapOb] at e
    | map _ _=>simp [mapOb] at e
  glob:=h.glob
theorem getT_mapIdx (f:Nat→D α→D α) (hb:∀t,f t .bad=.bad):∀(l:List (D α)) (t:Nat),getT (l.mapIdx f) t=f t (getT l t):=by
 intro l
 induction l generalizing f with
 | nil=>intro t;simp [getT,hb]
 | cons d r ih =>
  intro t
  cases t with
  | zero=>simp [getT]
  | succ t =>
   simp only [List.mapIdx_cons,getT]
   exact ih (fun i=>f (i+1)) (fun i=>hb (i+1)) t
inductive NilAt where
 | slot (t:Nat)
 | cell (b j:Nat)
def toArr (o:Nat):D α→D α
 | .nilS=>.arr o
 | d=>d
def nilT (N:NilAt) (o t:Nat) (d:D α):D α:=match N with
 | .slot t'=>bif Nat.beq t t' then toArr o d else d
 | .cell _ _=>d
def nilF (N:NilAt) (o n i:Nat) (d:D α):D α:=match N with
 | .slot _=>d
 | .cell b j=>bif Nat.beq n b&&Nat.beq i j then toArr o d else d
def isNilAt (N:NilAt) (S:St α):Bool:=match N with
 | .slot t=>(match getT S.tm t with
  | .nilS=>true
  | _=>false)
 | .cell b j=>(match look S.hs b with
  | some (.box _ cs)=>(match cs[j]? with
   | some .nilS=>true
   | _=>false)
  | _=>false)
def nil1 (C:Pay α) (x:NilAt×Nat×α) (S:St α):St α:=match look S.hs x.2.1 with
 | none=>bif isNilAt x.1 S&&(Nat.blt x.2.1 50000&&Nat.beq (C.len x.2.2) 0) then ⟨S.tm.mapIdx (nilT x.1 x.2.1),mapH (nilF x.1 x.2.1) ((x.2.1,.arr false x.2.2)::S.hs)⟩ else S
 | _=>S
def nilsS (C:Pay α):List (NilAt×Nat×α)→St α→St α
 | [],S=>S
 | x::r,S=>nilsS C r (nil1 C x S)
theorem toArr_rd {C:Pay α} {cx:Cx α} {o:Nat} {p:α} (ho:cx.ar o=some (none,p)) (hp:C.len p=0) {v:Value} {d:D α} (h:RD C cx v d):RD C cx v (toArr o d):=by
 cases d<;>first | exact h | (cases h;exact .arrN o p none ho hp)
theorem toArr_rg {C:Pay α} {cx:Cx α} {o:Nat} {p:α} (ho:cx.ar o=some (none,p)) (hp:C.len p=0) {tmps:Array Value} {v:Value} {d:D α} (h:RG C cx tmps v d):RG C cx tmps v (toArr o d):=by
 cases d<;>first | exact h | exact toArr_rd ho hp (show RD C cx v .nilS from h)
theorem Weak.nil1 (hX:XOk X) (x:NilAt×Nat×α) (S:St α):Weak X S (nil1 X.C x S):=by
 obtain ⟨N,o,p⟩:=x
 unfold Eng.nil1
 simp only
 cases hlo:look S.hs o with
 | some _=>exact Weak.refl S
 | none =>
  simp only
  cases hb:isNilAt N S&&(Nat.blt o 50000&&Nat.beq (X.C.len p) 0) with
  | false=>exact Weak.refl S
  | true =>
   simp only [Bool.and_eq_true] at hb
   have hp:X.C.len p=0:=Nat.eq_of_beq_eq_true hb.2.2
   intro g a w hS hK
   have h1:Sim X { g with rho:=bind1 g.rho o none } S.tm ((o,.arr false p)::S.hs) a w :=
    bind_new hX hS o hlo hb.2.1 p none w (BelowD.refl _ _) (fun b hb=>by simp at hb) hp
   have hcx:(cxOf { g with rho:=bind1 g.rho o none } ((o,.arr false p)::S.hs) w).ar o=some (none,p):=by
    simp [cxOf,look,Nat.beq_refl,bind1]
   refine ⟨_,h1.turned (nilT N o) (nilF N o) (fun t=>?_) (fun t v hr=>?_) (fun n i v d hr=>?_),fun t ks b e ht=>?_⟩
   ·unfold nilT;cases N<;>simp only;cases Nat.beq t _<;>rfl
   ·unfold nilT
    cases N with
    | slot t' =>
     simp only
     cases Nat.beq t t' with
     | false=>exact hr
     | true=>exact toArr_rg hcx hp hr
    | cell b j=>exact hr
   ·unfold nilF
    cases N with
    | slot t'=>exact hr
    | cell b j =>
     simp only
     cases Nat.beq n b&&Nat.beq i j with
     | false=>exact hr
     | true=>exact toArr_rd hcx hp hr
   ·have ht:getT (S.tm.mapIdx (nilT N o)) t=.gd ks b e:=ht
    rw [getT_mapIdx _ (fun t=>by unfold nilT;cases N<;>simp only;cases Nat.beq t _<;>rfl)] at ht
    refine hK t ks b e ?_
    unfold nilT at ht
    cases N with
    | slot t' =>
     simp only at ht
     cases hbt:Nat.beq t t' with
     | false=>rwa [hbt] at ht
     | true =>
      rw [hbt,cond_true] at ht
      cases hd:getT S.tm t<;>rw [hd] at ht<;>simp [toArr] at ht ⊢<;>exact ht
    | cell b j=>exact ht
theorem Weak.nils (hX:XOk X):∀(l:List (NilAt×Nat×α)) (S:St α),Weak X S (nilsS X.C l S)
 | [],S=>Weak.refl S
 | o::r,S=>(Weak.nil1 hX o S).trans (Weak.nils hX r _)
def calmQ (o:Nat) (d':D α):D α→D α
 | .ptr k 0=>bif Nat.beq k o then d' else .ptr k 0
 | d=>d
def calmP1 (C:Pay α) (o:Nat) (S:St α):St α:=match lend C S.hs 40 (.ptr o 0) with
 | some (d',ns)=>bif closed d' then ⟨S.tm.mapIdx (fun _=>calmQ o d'),mapH (fun _ _=>calmQ o d') (freeze S.hs ns)⟩ else S
 | none=>S
def calmPS (C:Pay α):List Nat→St α→St α
 | [],S=>S
 | o::r,S=>calmPS C r (calmP1 C o S)
theorem calmQ_rd {C:Pay α} {cx:Cx α} {o:Nat} {d':D α} (ho:∀v,RD C cx v (.ptr o 0)→RD C cx v d') {v:Value} {d:D α} (h:RD C cx v d):RD C cx v (calmQ o d' d):=by
 unfold calmQ
 split
 ·rename_i k
  cases hb:Nat.beq k o with
  | false=>exact h
  | true=>obtain rfl:=Nat.eq_of_beq_eq_true hb;exact ho v h
 ·exact h
theorem calmQ_rg {C:Pay α} {cx:Cx α} {o:Nat} {d':D α} (hc:closed d'=true) (ho:∀v,RD C cx v (.ptr o 0)→RD C cx v d') {tmps:Array Value} {v:Value} {d:D α} (h:RG C cx tmps v d):RG C cx tmps v (calmQ o d' d):=by
 cases d
 case gd=>exact h
 case ptr k f =>
  have hr:=calmQ_rd ho (show RD C cx v (.ptr k f) from h)
  cases f with
  | succ f=>exact h
  | zero =>
   simp only [calmQ] at hr ⊢
   cases hb:Nat.beq k o with
   | false=>exact h
   | true =>
    rw [hb,cond_true] at hr
    rw [cond_true]
    cases d'<;>first | exact hr | (unfold closed at hc;cases hc)
 all_goals exact h
theorem Weak.calmP1 (hX:XOk X) (o:Nat) (S:St α):Weak X S (calmP1 X.C o S):=by
 unfold Eng.calmP1
 split
 ·rename_i d' ns hl
  cases hc:closed d' with
  | false=>exact Weak.refl S
  | true =>
   intro g a w hS hK
   have hs1:=(sim_freeze hX hS ns).1
   have hle:=(sim_freeze hX hS ns).2
   have hrd:∀v,RD X.C (cxOf g (freeze S.hs ns) w) v (.ptr o 0)→RD X.C (cxOf g (freeze S.hs ns) w) v d':=by
    intro v hv
    have hv0:RD X.C (cxOf g S.hs w) v (.ptr o 0):=by
     cases hv with
     | ptr _ _ b ho =>
      refine .ptr o 0 b ?_
      simp only [cxOf] at ho ⊢
      rw [look_freeze] at ho
      by_cases hm:o∈ns
      ·rw [if_pos hm] at ho
       cases hlo:look S.hs o with
       | none=>rw [hlo] at ho;simp at ho
       | some x=>rw [hlo] at ho;cases x<;>first | exact ho | (simp [freezeOb] at ho)
      ·rw [if_neg hm] at ho
       exact ho
    have hx0:=(lend_sound hX hS (avBut g S.hs w ns) avBut_av 40).1 (.ptr o 0) v d' ns hv0 hl avBut_ns
    exact RD.closedTo hX.pay (frozen_of_out hS) hc hx0
   refine ⟨g.rho,hs1.turned (fun _=>calmQ o d') (fun _ _=>calmQ o d') (fun _=>rfl) (fun t v hr=>calmQ_rg hc hrd hr) (fun n i v d hr=>calmQ_rd hrd hr),fun t ks b e ht=>?_⟩
   have ht:getT (S.tm.mapIdx (fun _=>calmQ o d')) t=.gd ks b e:=ht
   rw [getT_mapIdx _ (fun _=>rfl)] at ht
   refine hK t ks b e ?_
   revert ht
   unfold calmQ
   split
   ·rename_i k hk
    cases Nat.beq k o with
    | false=>simp
    | true =>
     simp only [cond_true]
     intro ht
     rw [ht] at hc
     simp [closed] at hc
   ·exact id
 ·exact Weak.refl S
theorem Weak.calmP (hX:XOk X):∀(l:List Nat) (S:St α),Weak X S (calmPS X.C l S)
 | [],S=>Weak.refl S
 | o::r,S=>(Weak.calmP1 hX o S).trans (Weak.calmP hX r _)
def calmAD (o:Nat) (d':D α):D α→D α
 | .arr k=>bif Nat.beq k o then d' else .arr k
 | d=>d
def calmA1 (C:Pay α) (o:Nat) (S:St α):St α:=match lend C S.hs 40 (.arr o) with
 | some (d',ns)=>bif closed d' then ⟨S.tm.mapIdx (fun _=>calmAD o d'),mapH (fun _ _=>calmAD o d') (freeze S.hs ns)⟩ else S
 | none=>S
def calmAS (C:Pay α):List Nat→St α→St α
 | [],S=>S
 | o::r,S=>calmAS C r (calmA1 C o S)
theorem calmAD_rd {C:Pay α} {cx:Cx α} {o:Nat} {d':D α} (ho:∀v,RD C cx v (.arr o)→RD C cx v d') {v:Value} {d:D α} (h:RD C cx v d):RD C cx v (calmAD o d' d):=by
 unfold calmAD
 split
 ·rename_i k
  cases hb:Nat.beq k o with
  | false=>exact h
  | true=>obtain rfl:=Nat.eq_of_beq_eq_true hb;exact ho v h
 ·exact h
theorem calmAD_rg {C:Pay α} {cx:Cx α} {o:Nat} {d':D α} (hc:closed d'=true) (ho:∀v,RD C cx v (.arr o)→RD C cx v d') {tmps:Array Value} {v:Value} {d:D α} (h:RG C cx tmps v d):RG C cx tmps v (calmAD o d' d):=by
 cases d
 case gd=>exact h
 case arr k =>
  have hr:=calmAD_rd ho (show RD C cx v (.arr k) from h)
  simp only [calmAD] at hr ⊢
  cases hb:Nat.beq k o with
  | false=>exact h
  | true =>
   rw [hb,cond_true] at hr
   rw [cond_true]
   cases d'<;>first | exact hr | (unfold closed at hc;cases hc)
 all_goals exact h
theorem Weak.calmA1 (hX:XOk X) (o:Nat) (S:St α):Weak X S (calmA1 X.C o S):=by
 unfold Eng.calmA1
 split
 ·rename_i d' ns hl
  cases hc:closed d' with
  | false=>exact Weak.refl S
  | true =>
   intro g a w hS hK
   have hs1:=(sim_freeze hX hS ns).1
   have hrd:∀v,RD X.C (cxOf g (freeze S.hs ns) w) v (.arr o)→RD X.C (cxOf g (freeze S.hs ns) w) v d':=by
    intro v hv
    have har:∀b p,(cxOf g (freeze S.hs ns) w).ar o=some (b,p)→(cxOf g S.hs w).ar o=some (b,p):=by
     intro b p ho
     simp only [cxOf] at ho ⊢
     rw [look_freeze] at ho
     by_cases hm:o∈ns
     ·rw [if_pos hm] at ho
      cases hlo:look S.hs o with
      | none=>rw [hlo] at ho;simp at ho
      | some x=>rw [hlo] at ho;cases x<;>first | exact ho | (simp [freezeOb] at ho)
     ·rw [if_neg hm] at ho
      exact ho
    have hv0:RD X.C (cxOf g S.hs w) v (.arr o):=by
     cases hv with
     | arrO _ b p n c ho hn hc hsz=>exact .arrO o b p n c (har _ _ ho) hn hc hsz
     | arrN _ p a ho hn=>exact .arrN o p a (har _ _ ho) hn
    have hx0:=(lend_sound hX hS (avBut g S.hs w ns) avBut_av 40).1 (.arr o) v d' ns hv0 hl avBut_ns
    exact RD.closedTo hX.pay (frozen_of_out hS) hc hx0
   refine ⟨g.rho,hs1.turned (fun _=>calmAD o d') (fun _ _=>calmAD o d') (fun _=>rfl) (fun t v hr=>calmAD_rg hc hrd hr) (fun n i v d hr=>calmAD_rd hrd hr),fun t ks b e ht=>?_⟩
   have ht:getT (S.tm.mapIdx (fun _=>calmAD o d')) t=.gd ks b e:=ht
   rw [getT_mapIdx _ (fun _=>rfl)] at ht
   refine hK t ks b e ?_
   revert ht
   unfold calmAD
   split
   ·rename_i k hk
    cases Nat.beq k o with
    | false=>simp
    | true =>
     simp only [cond_true]
     intro ht
     rw [ht] at hc
     simp [closed] at hc
   ·exact id
 ·exact Weak.refl S
theorem Weak.calmA (hX:XOk X):∀(l:List Nat) (S:St α),Weak X S (calmAS X.C l S)
 | [],S=>Weak.refl S
 | o::r,S=>(Weak.calmA1 hX o S).trans (Weak.calmA hX r _)
def widD (p0:α):D α→D α
 | .nilS=>.pl p0 .any
 | .pl p _=>.pl p .any
 | d=>d
def widF (b j:Nat) (p0:α) (n i:Nat) (d:D α):D α:=bif Nat.beq n b&&Nat.beq i j then widD p0 d else d
def wid1 (C:Pay α) (x:Nat×Nat×α) (S:St α):St α:=bif Nat.beq (C.len x.2.2) 0 then ⟨S.tm,mapH (widF x.1 x.2.1 x.2.2) S.hs⟩ else S
def widS (C:Pay α):List (Nat×Nat×α)→St α→St α
 | [],S=>S
 | x::r,S=>widS C r (wid1 C x S)
theorem widD_rd {C:Pay α} {cx:Cx α} {p0:α} (hp:C.len p0=0) {v:Value} {d:D α} (h:RD C cx v d):RD C cx v (widD p0 d):=by
 unfold widD
 split
 ·exact h.le (.nil _ hp)
 ·exact h.le (.any _ _)
 ·exact h
theorem mapIdx_id (l:List (D α)):l.mapIdx (fun _ d=>d)=l:=by
 apply List.ext_getElem?
 intro i
 rw [List.getElem?_mapIdx]
 cases l[i]?<;>rfl
theorem Weak.wid1 (hX:XOk X) (x:Nat×Nat×α) (S:St α):Weak X S (wid1 X.C x S):=by
 unfold Eng.wid1
 cases hb:Nat.beq (X.C.len x.2.2) 0 with
 | false=>exact Weak.refl S
 | true =>
  have hp:=Nat.eq_of_beq_eq_true hb
  intro g a w hS hK
  have h1:=hS.turned (fun _ d=>d) (widF x.1 x.2.1 x.2.2) (fun _=>rfl) (fun _ _ h=>h) (fun n i v d h=>by
   unfold widF
   cases Nat.beq n x.1&&Nat.beq i x.2.1 with
   | false=>exact h
   | true=>exact widD_rd hp h)
  rw [mapIdx_id] at h1
  exact ⟨g.rho,h1,hK⟩
theorem Weak.wid (hX:XOk X):∀(l:List (Nat×Nat×α)) (S:St α),Weak X S (widS X.C l S)
 | [],S=>Weak.refl S
 | o::r,S=>(Weak.wid1 hX o S).trans (Weak.wid hX r _)
def goneF (b j:Nat) (n i:Nat) (d:D α):D α:=bif Nat.beq n b&&Nat.beq i j then .bad else d
def goneS:List (Nat×Nat)→St α→St α
 | [],S=>S
 | x::r,S=>goneS r ⟨S.tm,mapH (goneF x.1 x.2) S.hs⟩
theorem Weak.gone1 (x:Nat×Nat) (S:St α):Weak X S ⟨S.tm,mapH (goneF x.1 x.2) S.hs⟩:=by
 intro g a w hS hK
 have h1:=hS.turned (fun _ d=>d) (goneF x.1 x.2) (fun _=>rfl) (fun _ _ h=>h) (fun n i v d h=>by
  unfold goneF
  cases Nat.beq n x.1&&Nat.beq i x.2 with
  | false=>exact h
  | true=>exact .bad _)
 rw [mapIdx_id] at h1
 exact ⟨g.rho,h1,hK⟩
theorem Weak.gone:∀(l:List (Nat×Nat)) (S:St α),Weak X S (goneS l S)
 | [],S=>Weak.refl S
 | x::r,S=>(Weak.gone1 x S).trans (Weak.gone r _)
structure Fix (α:Type) where
 calmp:List Nat:=[]
 calm:List Nat:=[]
 keep:List Nat
 lose:List Nat:=[]
 wid:List (Nat×Nat×α):=[]
 gone:List (Nat×Nat):=[]
 nils:List (NilAt×Nat×α):=[]
 can:List (Nat×Nat×Nat):=[]
 ord:List Nat:=[]
def ordX (l:List Nat) (S:St α):St α:=match l with
 | []=>S
 | k::r=>ordS (k::r) S
def fixS (C:Pay α) (F:Fix α) (S:St α):St α :=
 ordX F.ord (canS F.can (nilsS C F.nils (goneS F.gone (widS C F.wid (normS (keepOf F.keep) (keepOf F.lose) (calmAS C F.calm (calmPS C F.calmp S)))))))
theorem Weak.ordX (l:List Nat) (S:St α):Weak X S (ordX l S):=by
 cases l with
 | nil=>exact Weak.refl S
 | cons k r=>exact Weak.ord _ _
theorem Weak.fix (hX:XOk X) (F:Fix α) (S:St α):Weak X S (fixS X.C F S) :=
 (Weak.calmP hX _ S).trans ((Weak.calmA hX _ _).trans ((Weak.norm hX _ _ _).trans ((Weak.wid hX _ _).trans ((Weak.gone _ _).trans ((Weak.nils hX _ _).trans ((Weak.can hX _ _).trans (Weak.ordX _ _)))))))
end Go.Eng
namespace Go.Eng
open Go.RowKit
def blurA (L:List Nat):Nat→List (D Pl)→List (D Pl)
 | _,[]=>[]
 | i,d::r=>(bif memNat L i then .num else d)::blurA L (i+1) r
def isNum:D Pl→Bool
 | .num=>true
 | .int .i64 _=>true
 | _=>false
def zeroA (L:List Nat):Nat→List (D Pl)→List (D Pl)
 | _,[]=>[]
 | i,d::r=>(bif memNat L i&&isNum d then dI 0 else d)::zeroA L (i+1) r
def blurs:Ty→List Nat
 | .exprs=>[12,13,14]
 | .items=>[15,16,17]
 | .fields=>[13,14,15]
 | .conds=>[13,14,15,28,29,30]
 | .inputs=>[16,17,18]
 | .dpls=>[12,13,14]
 | .ppls=>[12,13,14]
 | _=>[]
def blurry:Ty→Bool
 | .exprs | .items | .fields | .conds | .inputs | .dpls | .ppls=>true
 | _=>false
def blurC (t:Ty) (cs:List (D Pl)):List (D Pl):=bif blurry t then blurA (blurs t) 0 cs else cs
def zeroC' (t:Ty) (cs:List (D Pl)):List (D Pl):=bif blurry t then zeroA (blurs t) 0 cs else cs
theorem blurA_len (L:List Nat):∀(i:Nat) (cs:List (D Pl)),(blurA L i cs).length=cs.length
 | _,[]=>rfl
 | i,d::r=>by simp [blurA,blurA_len L (i+1) r]
theorem blurC_len (t:Ty) (cs:List (D Pl)):(blurC t cs).length=cs.length:=by
 unfold blurC
 cases blurry t
 ·rfl
 ·exact blurA_len _ _ _
theorem blurA_clo (L:List Nat):∀(i:Nat) (cs:List (D Pl)),(∀d∈cs,closed d=true)→∀d∈blurA L i cs,closed d=true
 | _,[],_,d,hd=>by simp [blurA] at hd
 | i,c::r,h,d,hd=>by
  rcases List.mem_cons.1 hd with rfl | hd
  ·cases memNat L i
   ·exact h c List.mem_cons_self
   ·rfl
  ·exact blurA_clo L (i+1) r (fun d hd=>h d (List.mem_cons_of_mem _ hd)) d hd
theorem blurC_clo (t:Ty) (cs:List (D Pl)) (h:∀d∈cs,closed d=true):∀d∈blurC t cs,closed d=true:=by
 unfold blurC
 cases blurry t
 ·exact h
 ·exact blurA_clo _ _ _ h
def numsA (L:List Nat):Nat→List (D Pl)→Bool
 | _,[]=>true
 | i,d::r=>(!(memNat L i)||isNum d)&&numsA L (i+1) r
theorem isNum_le {C:Pay Pl} {d:D Pl} (h:isNum d=true):Dle C d .num:=by
 unfold isNum at h
 split at h
 ·exact .same _
 ·exact .num _
 ·cases h
theorem all2_blurA {C:Pay Pl} (L:List Nat):∀(i:Nat) (cs es:List (D Pl)),numsA L i cs=true→All2 C (zeroA L i cs) es→All2 C cs (blurA L i es)
 | _,[],es,_,h=>by cases h;exact .nil
 | i,c::r,es,hn,h=>by
  simp only [numsA,Bool.and_eq_true,Bool.or_eq_true,Bool.not_eq_true'] at hn
  cases h with
  | cons h hr =>
   refine .cons ?_ (all2_blurA L (i+1) r _ hn.2 hr)
   cases hm:memNat L i with
   | true=>exact isNum_le (hn.1.resolve_left (by rw [hm];simp))
   | false=>rw [hm] at h;exact h
def numsC (t:Ty) (cs:List (D Pl)):Bool:=bif blurry t then numsA (blurs t) 0 cs else true
theorem all2_blurC {C:Pay Pl} {t:Ty} {cs es:List (D Pl)} (hn:numsC t cs=true) (h:All2 C (zeroC' t cs) es):All2 C cs (blurC t es):=by
 unfold zeroC' at h
 unfold numsC at hn
 unfold blurC
 cases hb:blurry t with
 | false=>rw [hb] at h;exact h
 | true=>rw [hb] at h hn;exact all2_blurA _ _ _ _ hn h
def decN (t:Ty) (cs:List (D Pl)):Option t.C:=bif numsC t cs then t.dec (zeroC' t cs) else none
theorem decN_all {C:Pay Pl} (hC:∀t,C.len ⟨t,[]⟩=0) {t:Ty} {cs:List (D Pl)} {x:t.C} (h:decN t cs=some x):All2 C cs (blurC t (t.enc x)):=by
 unfold decN at h
 cases hn:numsC t cs with
 | false=>rw [hn] at h;cases h
 | true=>rw [hn] at h;exact all2_blurC hn (Ty.dec_enc hC _ _ _ h)
def plN (emp:TypeId→Option Ty):Pay Pl:={ plC emp with
 al:=fun p=>match p.t with
  | .exprs=>true
  | _=>false
 elem:=fun p i=>blurC p.t (p.t.enc (p.l.getD i p.t.dflt))
 snoc:=fun p cs=>match decN p.t cs with
  | some x=>some ⟨p.t,p.l++[x]⟩
  | none=>none
 set:=fun p i cs=>match decN p.t cs with
  | some x=>some ⟨p.t,p.l.set i x⟩
  | none=>none }
theorem plN_ok (emp:TypeId→Option Ty):PayOk (plN emp) where
  pos:=(plC_ok emp).pos
  bpos:=(plC_ok emp).bpos
  elen:=fun p i _=>(blurC_len _ _).trans (Ty.enc_len _ _)
  clo:=fun p i d h=>blurC_clo _ _ (Ty.enc_clo _ _) d h
  emp:=(plC_ok emp).emp
  snoc:=fun p cs q h=>by
    simp only [plN] at h
    split at h
    · rename_i x hx
      simp only [Option.some.injEq] at h
      subst h
      obtain ⟨h1,h2⟩:=(decN_all (C:=plN emp) (fun _=>rfl) hx).spec
      refine ⟨by simp [plN,plC],rfl,rfl,fun i hi=>?_,h1.trans ((blurC_len _ _).trans (Ty.enc_len _ _)),fun j d d' hd hd'=>h2 j d d' hd ?_⟩
      · simp only [plN,plC] at hi ⊢
        simp [List.getD_eq_getElem?_getD,List.getElem?_append,hi]
      · simpa [plN,plC,List.getD_eq_getElem?_getD] using hd'
    · simp at h
  cat:=fun p q r h=>by
    simp only [plN,plC] at h
    split at h
    · rename_i l hl
      obtain ⟨e,rfl⟩:=castL_eq hl
      simp only [Option.some.injEq] at h
      subst h
      obtain ⟨t,l'⟩:=q
      simp only at e
      subst e
      refine ⟨by simp [plN,plC],rfl,rfl,rfl,fun i hi=>?_,fun i hi=>?_⟩
      · simp only [plN,plC] at hi ⊢
        simp [List.getD_eq_getElem?_getD,List.getElem?_append,hi]
      · simp only [plN,plC] at hi ⊢
        have hn:¬ (p.l.length+i < p.l.length):=by omega
        simp [List.getD_eq_getElem?_getD,List.getElem?_append,hn]
    · simp at h
  cut:=fun p a n h=>by
    simp only [plN,plC] at h ⊢
    refine ⟨by simp;omega,trivial,trivial,fun i hi=>?_⟩
    simp [List.getD_eq_getElem?_getD,hi,List.getElem?_drop]
  set:=fun p i cs q hi h=>by
    simp only [plN,plC] at h hi
    split at h
    · rename_i x hx
      simp only [Option.some.injEq] at h
      subst h
      obtain ⟨h1,h2⟩:=(decN_all (C:=plN emp) (fun _=>rfl) hx).spec
      refine ⟨by simp [plN,plC],rfl,rfl,fun j hj=>?_,h1.trans ((blurC_len _ _).trans (Ty.enc_len _ _)),fun j d d' hd hd'=>h2 j d d' hd ?_⟩
      · simp only [plN,plC]
        simp [List.getD_eq_getElem?_getD,Ne.symm hj]
      · simpa [plN,plC,List.getD_eq_getElem?_getD,List.getElem?_set,hi] using hd'
    · simp at h
  bytes:=fun p l h=>by
    obtain ⟨h1,h2,h3⟩:=(plC_ok emp).bytes p l h
    refine ⟨h1,h2,fun i hi=>?_⟩
    have:=h3 i hi
    simp only [plN,plC] at h this ⊢
    split at h
    · exact this
    · simp at h
  ofBytes:=(plC_ok emp).ofBytes
  rep:=fun t n p h=>by
    obtain ⟨h1,h2,h3⟩:=(plC_ok emp).rep t n p h
    refine ⟨h1,h2,?_⟩
    have hb:blurry p.t=false:=by
      simp only [plN,plC] at h
      split at h<;>first | (simp only [Option.some.injEq] at h;subst h;rfl) | simp at h
    have:∀i,(plN emp).elem p i=(plC emp).elem p i:=fun i=>by
      show blurC p.t _=_
      unfold blurC
      rw [hb]
      rfl
    simp only [this]
    exact h3
  alcut:=fun _ _ _=>rfl
  alcat:=fun p q r h=>by
    simp only [plN,plC] at h
    split at h
    · rename_i l hl
      obtain ⟨e,_⟩:=castL_eq hl
      simp only [Option.some.injEq] at h
      subst h
      show (match p.t with | .exprs=>true | _=>false)=match q.t with | .exprs=>true | _=>false
      rw [e]
    · simp at h
  albytes:=fun p l h=>by
    simp only [plN,plC] at h
    split at h
    · rfl
    · simp at h
  memp:=(plC_ok emp).memp
  mkclo:=(plC_ok emp).mkclo
  mvclo:=(plC_ok emp).mvclo
  mget:=(plC_ok emp).mget
  mput := fun p d e q h => by
    simp only [plN,plC,mputP] at h
    split at h
    · rename_i k v l
      split at h
      · rename_i x y hx hy
        have hd:=KT.dec_enc k hx
        have hv:=VT.dec_enc (C:=plN emp) (fun _=>rfl) v hy
        simp only [Option.some.injEq] at h
        subst h
        refine ⟨fun i _=>by rw [hd];exact KT.shp_enc k _ _,by rw [hd];exact KT.clo k x,?_⟩
        rcases putM_spec (k.dflt,v.dflt) l x y with ⟨i,h1,h2,h3,h4,h5⟩ | ⟨h1,h2⟩
        · refine .inl ⟨i,h1,by rw [hd,←h2];rfl,h3,fun j hj=>?_,?_⟩
          · obtain ⟨g1,g2⟩:=h4 j hj
            exact ⟨congrArg k.enc g1,fun hne=>congrArg (fun z:k.C×v.C=>v.enc z.2) (g2 hne)⟩
          · have:(plN emp).mval ⟨.map k v,putM l x y⟩ i=v.enc y:=congrArg v.enc h5
            exact this ▸ hv
        · have hx2:(l++[(x,y)]).getD l.length (k.dflt,v.dflt)=(x,y):=by simp
          rw [h2]
          refine .inr ⟨fun i hi he=>h1 i hi (KT.enc_inj k ?_),by simp [plN,plC],fun j hj=>?_,?_,?_⟩
          · rw [hd] at he
            exact he
          · have hj:j < l.length:=hj
            have:(l++[(x,y)]).getD j (k.dflt,v.dflt)=l.getD j (k.dflt,v.dflt):=by simp [List.getD_eq_getElem?_getD,List.getElem?_append,hj]
            exact ⟨congrArg (fun z:k.C×v.C=>k.enc z.1) this,congrArg (fun z:k.C×v.C=>v.enc z.2) this⟩
          · rw [hd];exact congrArg (fun z:k.C×v.C=>k.enc z.1) hx2
          · have:(plN emp).mval ⟨.map k v,l++[(x,y)]⟩ l.length=v.enc y:=congrArg (fun z:k.C×v.C=>v.enc z.2) hx2
            exact this ▸ hv
      · simp at h
    · simp at h
end Go.Eng
namespace Go.Eng
open Go.RowKit
theorem wp_tab {P:Program} {id:Nat} {ops:Array Oper} (hm:P.follows .mixedOrders=true) {Q:Exit→Act→World→Prop} (Inv:(Nat→Prop)→Act→World→Prop)
  (hb:backOK 0 ops.toList=true)
  (hstep:∀(L:Nat→Prop) a w,Inv L a w→(∀j,L j→j < ops.size)→∀(i:Nat) o,ops[i]?=some o→¬ L i→(∀j,Pre ops i j→L j)→∀K:Act→World→Prop,(∀a' w',Inv (fun j=>L j∨j=i) a' w'→K a' w')→wpOp P ops Q i K a w)
  (hfin:∀(L:Nat→Prop) a w,Inv L a w→(∀i,i < ops.size→L i)→Q .normal a w) {a:Act} {w:World} (h0:Inv (fun _=>False) a { w with drawn:=w.drawn+1 }):(Code.region id ops true).wp P Q a w:=by
 refine wp_region_any hm ?_
 have hback:∀(j:Nat) o,ops[j]?=some o→∀e∈o.after,Region.binds .any e=true→e.on < j:=fun j o ho e he hb'=>by
  have:=backOK_spec ops.toList 0 hb j o (by simpa using ho) e he hb'
  omega
 have hready:∀(listed:Array Bool),listed.size=ops.size→∀i,i∈Region.ready .any ops listed↔i < ops.size∧¬ listed.getD i false=true∧∀o,ops[i]?=some o→∀e∈o.after,Region.binds .any e=true→listed.getD e.on false=true:=by
  intro listed hsz i
  simp only [Region.ready,List.mem_filter,List.mem_range,Bool.and_eq_true,Bool.not_eq_true']
  refine and_congr_right fun hi=>?_
  have ho:ops[i]?=some ops[i]:=by simp [hi]
  rw [ho]
  simp only [Option.map_some,Option.getD_some,Array.all_eq_true',Bool.or_eq_true,Bool.not_eq_true',Option.some.injEq,forall_eq']
  refine and_congr ?_ ?_
  ·simp only [Array.getD_eq_getD_getElem?,show listed[i]?=some (listed[i]'(by omega)) by simp [hsz,hi],Option.getD_some,Bool.not_eq_true]
  ·exact ⟨fun h e he hb=>(h e he).resolve_left (by rw [hb];simp),fun h e he=>by
    cases hb:Region.binds .any e with
    | false=>exact .inl rfl
    | true=>exact .inr (h e he hb)⟩
 have hnil:∀(listed:Array Bool),listed.size=ops.size→Region.ready .any ops listed=[]→∀i,i < ops.size→listed.getD i false=true:=by
  intro listed hsz hr i
  induction i using Nat.strongRecOn with
  | _ i ih =>
   intro hi
   refine Classical.byContradiction fun hn=>?_
   have:i∈Region.ready .any ops listed:=(hready listed hsz i).2 ⟨hi,hn,fun o ho e he hb=>ih e.on (hback i o ho e he hb) (by have:=hback i o ho e he hb;omega)⟩
   rw [hr] at this
   simp at this
 have hlt:∀(listed:Array Bool),listed.size=ops.size→∀j,listed.getD j false=true→j < ops.size:=by
  intro listed hsz j h
  rcases Nat.lt_or_ge j ops.size with h' | h'
  ·exact h'
  ·simp [Array.getD_eq_getD_getElem?,Array.getElem?_eq_none (show listed.size≤j by omega)] at h
 have key:∀(fuel:Nat) (listed:Array Bool) (a:Act) (w:World),listed.size=ops.size→Inv (fun j=>listed.getD j false=true) a w→(∀j,listed.getD j false=true→∀i,Pre ops j i→listed.getD i false=true) →
   unlisted ops.size listed≤fuel→wpAny P .any ops Q fuel listed a w:=by
  intro fuel
  induction fuel with
  | zero =>
   intro listed a w hsz hI hdown hf
   have hall:∀i,i < ops.size→listed.getD i false=true:=by
    intro i hi
    have:=countP_zero _ _ (show unlisted ops.size listed=0 by omega) i (by simpa using hi)
    simpa using this
   refine ⟨?_,hfin _ a w hI hall⟩
   refine List.eq_nil_iff_forall_not_mem.2 fun i hi=>?_
   obtain ⟨h1,h2,_⟩:=(hready listed hsz i).1 hi
   exact h2 (hall i h1)
  | succ fuel ih =>
   intro listed a w hsz hI hdown hf
   refine ⟨fun hr=>hfin _ a w hI (hnil listed hsz hr),fun i hi=>?_⟩
   obtain ⟨h1,h2,h3⟩:=(hready listed hsz i).1 hi
   have ho:ops[i]?=some ops[i]:=by simp [h1]
   have hpre:∀j,Pre ops i j→listed.getD j false=true:=by
    intro j hj
    obtain ⟨e,he,hb,h⟩:=pre_spec ho hj
    have hl:=h3 _ ho e he hb
    rcases h with rfl | h
    ·exact hl
    ·exact hdown _ hl j h
   have hset:∀j,(listed.setIfInBounds i true).getD j false=true↔listed.getD j false=true∨j=i:=fun j=>getD_set (by omega)
   refine hstep _ a w hI (hlt listed hsz) i _ ho h2 hpre _ fun a' w' hI'=>?_
   refine ih _ a' w' (by simpa using hsz) ?_ ?_ ?_
   ·have:(fun j=>(listed.setIfInBounds i true).getD j false=true)=fun j=>listed.getD j false=true∨j=i:=by
     funext j;exact propext (hset j)
    rw [this];exact hI'
   ·intro j hj k hk
    rw [hset] at hj ⊢
    rcases hj with hj | rfl
    ·exact .inl (hdown j hj k hk)
    ·exact .inl (hpre k hk)
   ·have:unlisted ops.size (listed.setIfInBounds i true) < unlisted ops.size listed:=by
     refine countP_lt _ _ (fun x hx=>?_) _ i (by simpa using h1) (by simpa using h2) ?_
     ·simp only [Bool.not_eq_true'] at hx ⊢
      cases hl:listed.getD x false with
      | false=>rfl
      | true=>rw [(hset x).2 (.inl hl)] at hx;simp at hx
     ·simp only [Bool.not_eq_false']
      exact (hset i).2 (.inr rfl)
    omega
 have hL0:∀j,(Array.replicate ops.size false).getD j false=true→False:=by
  intro j h
  simp only [Array.getD_eq_getD_getElem?,Array.getElem?_replicate] at h
  split at h<;>simp at h
 refine key ops.size _ a _ (by simp) ?_ (fun j h=>(hL0 j h).elim) ?_
 ·have:(fun j=>(Array.replicate ops.size false).getD j false=true)=fun _=>False:=by
   funext j;exact propext ⟨hL0 j,fun h=>h.elim⟩
  rw [this];exact h0
 ·have:=List.countP_le_length (p:=fun i=>!(Array.replicate ops.size false).getD i false) (l:=List.range ops.size)
  simpa [unlisted] using this
def readyN (ops:Array Oper) (pres:List Nat) (m i:Nat):Bool:=!(m.testBit i)&&(List.range ops.size).all fun j=>!(hasBit ((pres[i]?).getD 0) j)||m.testBit j
def pairsN (ops:Array Oper) (tab:List Nat):List (Nat×Nat):=tab.flatMap fun m=>((List.range ops.size).filter (readyN ops (presOf ops.toList []) m)).map fun i=>(m,i)
def tabN (ops:Array Oper) (tab:List Nat) (full:Nat):Bool :=
 backOK 0 ops.toList&&(memN tab 0&&((pairsN ops tab).all (fun q=>memN tab (q.1+2 ^ q.2)&&(List.range ops.size).all fun j=>(q.1+2 ^ q.2).testBit j==(q.1.testBit j||Nat.beq j q.2))&&tab.all fun m=>Nat.beq m full||(List.range ops.size).any fun i=>!(m.testBit i)))
def growN (ops:Array Oper) (pres:List Nat):Nat→List Nat→List Nat→List Nat
 | 0,_,acc=>acc
 | n+1,front,acc =>
  let next:=(front.flatMap fun m=>((List.range ops.size).filter (readyN ops pres m)).map fun i=>m+2 ^ i).foldl (fun l m=>bif memN l m then l else m::l) []
  growN ops pres n next (acc++next)
def makeN (ops:Array Oper):List Nat:=growN ops (presOf ops.toList []) ops.size [0] [0]
theorem wp_tabN {P:Program} {id:Nat} {ops:Array Oper} (hm:P.follows .mixedOrders=true) {Q:Exit→Act→World→Prop} (tab:List Nat) (full:Nat) (ht:tabN ops tab full=true) (Inv:Nat→Act→World→Prop)
  (hstep:∀q∈pairsN ops tab,∀a w,Inv q.1 a w→∀K:Act→World→Prop,(∀a' w',Inv (q.1+2 ^ q.2) a' w'→K a' w')→wpOp P ops Q q.2 K a w)
  (hfin:∀a w,Inv full a w→Q .normal a w) {a:Act} {w:World} (h0:Inv 0 a { w with drawn:=w.drawn+1 }):(Code.region id ops true).wp P Q a w:=by
 unfold tabN at ht
 simp only [Bool.and_eq_true] at ht
 obtain ⟨h3,h4,h5,h6⟩:=ht
 refine wp_tab hm (fun L a w=>∃m,m∈tab∧(∀i,i < ops.size→(L i↔m.testBit i=true))∧Inv m a w) h3 (fun L a w hI hLn i o ho hiL hpre K hK=>?_) (fun L a w hI hall=>?_) ⟨0,(memN_iff _ _).1 h4,fun i _=>⟨fun h=>h.elim,fun h=>by simp at h⟩,h0⟩
 ·obtain ⟨m,hm,hb,hI⟩:=hI
  have hi:i < ops.size:=by
   rcases Nat.lt_or_ge i ops.size with h | h
   ·exact h
   ·simp [Array.getElem?_eq_none h] at ho
  have hq:(m,i)∈pairsN ops tab:=by
   refine List.mem_flatMap.2 ⟨m,hm,List.mem_map.2 ⟨i,List.mem_filter.2 ⟨List.mem_range.2 hi,?_⟩,rfl⟩⟩
   unfold readyN
   simp only [Bool.and_eq_true,Bool.not_eq_true',List.all_eq_true,List.mem_range,Bool.or_eq_true]
   refine ⟨?_,fun j hj=>?_⟩
   ·cases h:m.testBit i with
    | false=>rfl
    | true=>exact absurd ((hb i hi).2 h) hiL
   ·cases h:hasBit (((presOf ops.toList [])[i]?).getD 0) j with
    | false=>exact .inl rfl
    | true=>exact .inr ((hb j hj).1 (hpre j h))
  have h5:=List.all_eq_true.1 h5 _ hq
  rw [Bool.and_eq_true,List.all_eq_true] at h5
  refine hstep (m,i) hq a w hI K fun a' w' hI'=>hK a' w' ⟨_,(memN_iff _ _).1 h5.1,fun j hj=>?_,hI'⟩
  rw [beq_iff_eq.1 (h5.2 j (List.mem_range.2 hj)),Bool.or_eq_true,Nat.beq_eq]
  exact or_congr (hb j hj) Iff.rfl
 ·obtain ⟨m,hm,hb,hI⟩:=hI
  have:=List.all_eq_true.1 h6 m hm
  rw [Bool.or_eq_true,Nat.beq_eq,List.any_eq_true] at this
  rcases this with h | ⟨i,hi,h⟩
  ·rw [h] at hI;exact hfin a w hI
  ·have hi:=List.mem_range.1 hi
   rw [(hb i hi).1 (hall i hi)] at h
   simp at h
theorem wp_lex {P:Program} {id:Nat} {ops:Array Oper} {Q:Exit→Act→World→Prop} (Inv:Nat→Act→World→Prop)
  (hstep:∀i,i < ops.size→∀a w,Inv i a w→∀K:Act→World→Prop,(∀a' w',Inv (i+1) a' w'→K a' w')→wpOp P ops Q i K a w)
  (hfin:∀a w,Inv ops.size a w→Q .normal a w) {a:Act} {w:World} (h0:Inv 0 a w):(Code.region id ops false).wp P Q a w:=by
 refine wp_region ?_
 rw [List.range_eq_range']
 have key:∀(m i:Nat) (a:Act) (w:World),i+m=ops.size→Inv i a w→wpOps P ops Q (List.range' i m) a w:=by
  intro m
  induction m with
  | zero =>
   intro i a w hi hI
   simp only [List.range'_zero,wpOps]
   obtain rfl:i=ops.size:=by omega
   exact hfin a w hI
  | succ m ih =>
   intro i a w hi hI
   refine wpOps_range' i m a w ?_
   exact hstep i (by omega) a w hI _ fun a' w' hI'=>ih (i+1) a' w' (by omega) hI'
 exact key ops.size 0 a w (by omega) h0
section
variable {α:Type} {X:Ctx α}
noncomputable def stepX (X:Ctx α) (F:FuncId→Option Func) (R:Told α) (TL:LoopsT α) (n:Nat) (ops:Array Oper) (i:Nat) (S:St α):Option (St α):=match ops[i]? with
 | some o=>runL X (callK X F R TL n) ops i [o] S.tm S.hs [] [] (fun tm hs _ _=>some ⟨tm,hs⟩)
 | none=>none
theorem op_goes (hX:XOk X) {F:FuncId→Option Func} (hF:FOk X.P F) {R:Told α} (h0:ToldOk X R) {TL:LoopsT α} (hTL:TLOk X F TL) {n:Nat} {ops:Array Oper} {i:Nat} {o:Oper} {S S':St α} (ho:ops[i]?=some o) (hgn:o.guard=none)
  (hst:stepX X F R TL n ops i S=some S') {g:Gh} {a:Act} {w:World} (hS:Sim X g S.tm S.hs a w) (hK:KeyIn S.tm (fun _=>False)) {K:Act→World→Prop} {Q:Exit→Act→World→Prop}
  (h:∀rho' a' w',Sim X { g with rho:=rho' } S'.tm S'.hs a' w'→KeyIn S'.tm (fun _=>False)→K a' w'):wpOp X.P ops Q i K a w:=by
 have hinh:Inhabited (St α):=⟨⟨[],[]⟩⟩
 have hR:ROk (X.withR (semR X F R TL (St α) n)):=by
  intro f' ds' b' d' hr hb
  have hr:semR X F R TL (St α) n f' ds'=some (b',d'):=hr
  unfold semR at hr
  split at hr
  ·rename_i hex
   simp only [Option.some.injEq,Prod.mk.injEq] at hr
   rw [←hr.2]
   exact semOk hX hF h0 hTL n _ _ _ hex.choose_spec
  ·simp at hr
 have hX':=xok_withR hX (semR X F R TL (St α) n)
 have hck:=ckOk (γ:=St α) X F R TL n
 unfold stepX at hst
 rw [ho] at hst
 simp only at hst
 rw [←runL_withR (semR X F R TL (St α) n)] at hst
 obtain ⟨T,H,W,wsN,lgN,hT,hH,hk,hst',_⟩:=trace _ _ hck ops _ _ [o] i _ _ _ _ hst
 have hstp:=hst' 0 o rfl
 simp only [List.length_singleton,Option.some.injEq] at hk
 rw [Nat.add_zero,hT,hH] at hstp
 have e1:T (i+1)=S'.tm:=by rw [←hk]
 have e2:H (i+1)=S'.hs:=by rw [←hk]
 rw [e1,e2] at hstp
 refine astep_sound hX' hR ((sim_withR _).2 hS) ho hstp (K:=fun _=>False) (K':=fun _=>False) hK (fun _ h=>h) (fun _ _ h=>h) (fun j want s hg _ _=>?_) fun rho' a' w' hS' hK'=>h rho' a' w' ((sim_withR _).1 hS') hK'
 rw [hgn] at hg;simp at hg
end
end Go.Eng
