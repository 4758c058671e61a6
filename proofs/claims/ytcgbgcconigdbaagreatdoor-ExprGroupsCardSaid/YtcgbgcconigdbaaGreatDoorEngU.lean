/-
 THE ENGINE, PART U: A FUNCTION's BODY KEEPS ITS CONTRACT.
-/
import Derived.Test.YtcgbgcconigdbaaGreatDoorEngS3
import Derived.LoopN
namespace Go.Eng
open Go.RowKit
variable {α:Type}
theorem countP_lt {β:Type} (p q:β→Bool) (hpq:∀x,q x=true→p x=true):∀(l:List β) (x:β),x∈l→p x=true→q x=false→l.countP q < l.countP p
 | [],x,h,_,_=>by simp at h
 | y::r,x,h,hp,hq=>by
  have hle:r.countP q≤r.countP p:=List.countP_mono_left fun z _ hz=>hpq z hz
  rcases List.mem_cons.1 h with rfl | h
  ·simp only [List.countP_cons,hp,hq]
   simp
   omega
  ·have:=countP_lt p q hpq r x h hp hq
   simp only [List.countP_cons]
   cases hy:q y with
   | false=>simp;omega
   | true=>simp [hpq y hy];omega
theorem countP_zero {β:Type} (p:β→Bool):∀(l:List β),l.countP p=0→∀x∈l,p x=false:=by
 intro l h x hx
 cases hp:p x with
 | false=>rfl
 | true=>exact absurd (List.countP_pos_iff.2 ⟨x,hx,hp⟩) (by omega)
def unlisted (n:Nat) (listed:Array Bool):Nat:=(List.range n).countP fun i=>!listed.getD i false
theorem getD_set {l:Array Bool} {i j:Nat} (hi:i < l.size):(l.setIfInBounds i true).getD j false=true↔l.getD j false=true∨j=i:=by
 simp only [Array.getD_eq_getD_getElem?,Array.getElem?_setIfInBounds]
 by_cases h:i=j
 ·subst h;simp [hi]
 ·simp [h]
  intro h';exact absurd h'.symm h
section
variable {X:Ctx α} {g:Gh}
theorem anyorder (hX:XOk X) (hR:ROk X) {ops:Array Oper} (hsl:SlotsOK ops) {T:Nat→List (D α)} {H:Nat→Obs α}
  (hback:∀(j:Nat) o,ops[j]?=some o→∀e∈o.after,Region.binds .any e=true→e.on < j)
  (Inv:(Nat→Prop)→List (D α)→Obs α→Prop)
  (hstep:∀(L:Nat→Prop) tm hs,Inv L tm hs→(∀j,L j→∀i,Pre ops j i→L i)→(∀j,L j→j < ops.size)→∀(i:Nat) o,ops[i]?=some o→¬ L i→(∀j,Pre ops i j→L j) →
   ∃W tm1 hs1,AStep X ops i o tm hs tm1 hs1 W∧Inv (fun j=>L j∨j=i) tm1 hs1∧∀j want,o.guard=some (j,want)→j < i→(slotOf ops j).isSome=true→L j)
  (hfin:∀(L:Nat→Prop) tm hs,Inv L tm hs→(∀i,i < ops.size→L i)→tm=T ops.size∧∀k,look hs k=look (H ops.size) k) {Q:Exit→Act→World→Prop}
  (hQ:∀rho' a' w',Sim X { g with rho:=rho' } (T ops.size) (H ops.size) a' w'→KeyIn (T ops.size) (KOf ops fun _=>True)→Q .normal a' w') :
  ∀(fuel:Nat) (listed:Array Bool) (tm:List (D α)) (hs:Obs α) (rho:Nat→Option Nat) (a:Act) (w:World),listed.size=ops.size →
   Inv (fun j=>listed.getD j false=true) tm hs→(∀j,listed.getD j false=true→∀i,Pre ops j i→listed.getD i false=true) →
   KeyIn tm (KOf ops fun j=>listed.getD j false=true)→Sim X { g with rho:=rho } tm hs a w→unlisted ops.size listed≤fuel→wpAny X.P .any ops Q fuel listed a w:=by
 intro fuel
 have hend:∀(listed:Array Bool) (tm:List (D α)) (hs:Obs α) (rho:Nat→Option Nat) (a:Act) (w:World),Inv (fun j=>listed.getD j false=true) tm hs →
   KeyIn tm (KOf ops fun j=>listed.getD j false=true)→Sim X { g with rho:=rho } tm hs a w→(∀i,i < ops.size→listed.getD i false=true)→Q .normal a w:=by
  intro listed tm hs rho a w hI hK hS hall
  obtain ⟨htm,hhs⟩:=hfin _ _ _ hI hall
  subst htm
  exact hQ rho a w (hS.eqv hhs) (hK.mono fun s ⟨h1,j,_,h3⟩=>⟨h1,j,trivial,h3⟩)
 have hready:∀(listed:Array Bool),listed.size=ops.size→∀i,i∈Region.ready .any ops listed↔i < ops.size∧¬ listed.getD i false=true∧∀o,ops[i]?=some o→∀e∈o.after,Region.binds .any e=true→listed.getD e.on false=true:=by
  intro listed hsz i
  simp only [Region.ready,List.mem_filter,List.mem_range,Bool.and_eq_true,Bool.not_eq_true']
  refine and_congr_right fun hi=>?_
  have ho:ops[i]?=some ops[i]:=by simp [hi]
  rw [ho]
  simp only [Option.map_some,Option.getD_some,Array.all_eq_true',Bool.or_eq_true,Bool.not_eq_true',Option.some.injEq,forall_eq']
  refine and_congr ?_ ?_
  ·simp only [Array.getD_eq_getD_getElem?,show listed[i]?=some (listed[i]'(by omega)) by simp [hsz,hi],Option.getD_some,Bool.not_eq_true]
  ·exact ⟨fun h e he hb=>(h e he).resolve_left (by rw [hb];simp),fun h e he=>by
    cases hb:Region.binds .any e with
    | false=>exact .inl rfl
    | true=>exact .inr (h e he hb)⟩
 have hnil:∀(listed:Array Bool),listed.size=ops.size→Region.ready .any ops listed=[]→∀i,i < ops.size→listed.getD i false=true:=by
  intro listed hsz hr i
  induction i using Nat.strongRecOn with
  | _ i ih =>
   intro hi
   refine Classical.byContradiction fun hn=>?_
   have:i∈Region.ready .any ops listed:=(hready listed hsz i).2 ⟨hi,hn,fun o ho e he hb=>ih e.on (hback i o ho e he hb) (by have:=hback i o ho e he hb;omega)⟩
   rw [hr] at this
   simp at this
 have hlt:∀(listed:Array Bool),listed.size=ops.size→∀j,listed.getD j false=true→j < ops.size:=by
  intro listed hsz j h
  rcases Nat.lt_or_ge j ops.size with h' | h'
  ·exact h'
  ·simp [Array.getD_eq_getD_getElem?,Array.getElem?_eq_none (show listed.size≤j by omega)] at h
 induction fuel with
 | zero =>
  intro listed tm hs rho a w hsz hI hdown hK hS hf
  have hall:∀i,i < ops.size→listed.getD i false=true:=by
   intro i hi
   have:=countP_zero _ _ (show unlisted ops.size listed=0 by omega) i (by simpa using hi)
   simpa using this
  refine ⟨?_,hend listed tm hs rho a w hI hK hS hall⟩
  refine List.eq_nil_iff_forall_not_mem.2 fun i hi=>?_
  obtain ⟨h1,h2,_⟩:=(hready listed hsz i).1 hi
  exact h2 (hall i h1)
 | succ fuel ih =>
  intro listed tm hs rho a w hsz hI hdown hK hS hf
  refine ⟨fun hr=>hend listed tm hs rho a w hI hK hS (hnil listed hsz hr),fun i hi=>?_⟩
  obtain ⟨h1,h2,h3⟩:=(hready listed hsz i).1 hi
  have ho:ops[i]?=some ops[i]:=by simp [h1]
  have hpre:∀j,Pre ops i j→listed.getD j false=true:=by
   intro j hj
   obtain ⟨e,he,hb,h⟩:=pre_spec ho hj
   have hl:=h3 _ ho e he hb
   rcases h with rfl | h
   ·exact hl
   ·exact hdown _ hl j h
  obtain ⟨W,tm1,hs1,st,hI1,hg⟩:=hstep _ _ _ hI hdown (hlt listed hsz) i _ ho h2 hpre
  have hset:∀j,(listed.setIfInBounds i true).getD j false=true↔listed.getD j false=true∨j=i:=fun j=>getD_set (by omega)
  refine step_region' hX hR hS hsl (L:=fun j=>listed.getD j false=true) (L':=fun j=>(listed.setIfInBounds i true).getD j false=true) ho st hK h2 (fun j h=>(hset j).2 (.inl h)) hg fun rho' a' w' hS' hK'=>?_
  refine ih _ tm1 hs1 rho' a' w' (by simpa using hsz) ?_ ?_ hK' hS' ?_
  ·have:(fun j=>(listed.setIfInBounds i true).getD j false=true)=fun j=>listed.getD j false=true∨j=i:=by
    funext j;exact propext (hset j)
   rw [this];exact hI1
  ·intro j hj k hk
   rw [hset] at hj ⊢
   rcases hj with hj | rfl
   ·exact .inl (hdown j hj k hk)
   ·exact .inl (hpre k hk)
  ·have:unlisted ops.size (listed.setIfInBounds i true) < unlisted ops.size listed:=by
    refine countP_lt _ _ (fun x hx=>?_) _ i (by simpa using h1) (by simpa using h2) ?_
    ·simp only [Bool.not_eq_true'] at hx ⊢
     cases hl:listed.getD x false with
     | false=>rfl
     | true=>rw [(hset x).2 (.inl hl)] at hx;simp at hx
    ·simp only [Bool.not_eq_false']
     exact (hset i).2 (.inr rfl)
   omega
def toExit:Ex→Exit
 | .normal=>.normal
 | .exit id=>.exit id
 | .ret=>.ret
theorem keyIn_ungd (tm:List (D α)) (K:Nat→Prop):KeyIn (tm.map ungd) K:=by
 intro t ks b e h
 rw [getT_map _ (by rfl)] at h
 cases hd:getT tm t<;>rw [hd] at h<;>simp [ungd] at h
theorem Sim.ungd {tm:List (D α)} {hs:Obs α} {a:Act} {w:World} (hS:Sim X g tm hs a w):Sim X g (tm.map ungd) hs a w:=by
 refine ⟨by simpa using hS.size,fun t=>?_,hS.dfr,hS.obs,hS.inj,hS.own,hS.below,hS.av0,hS.lav,hS.top,hS.glob⟩
 rw [getT_map _ (by rfl)]
 have:=hS.tm t
 cases hd:getT tm t<;>rw [hd] at this
 case gd=>exact .bad _
 all_goals exact this
def Goes (X:Ctx α) (code:Code) (S:St α) (e:Ex) (S':St α):Prop :=
 ∀(g:Gh) (a:Act) (w:World),Sim X g S.tm S.hs a w→KeyIn S.tm (fun _=>False)→∀Q:Exit→Act→World→Prop,
  (∀rho' a' w',Sim X { g with rho:=rho' } S'.tm S'.hs a' w'→KeyIn S'.tm (fun _=>False)→Q (toExit e) a' w')→code.wp X.P Q a w
theorem region_sound (hX:XOk X) (hR:ROk X) {γ:Type} {RK:CK α γ} (hRK:CKOk X RK) (L:LK α) (id:Nat) (ops:Array Oper) (draw:Bool) (S:St α) (k:Ex→St α→Option γ) (c:γ) (h:exec X RK L (.region id ops draw) S k=some c) :
  ∃e S',k e S'=some c∧Goes X (.region id ops draw) S e S':=by
 simp only [exec] at h
 obtain ⟨h1,h2⟩:=chk_eq h
 obtain ⟨hsl,hdis⟩:=slots_of h1
 obtain ⟨T,H,W,wsN,lgN,hT,hH,hk,hst,hW,_,_,hlg⟩:=trace X RK hRK ops _ c _ 0 _ _ _ _ h2
 simp only [Nat.zero_add,List.length_nil] at hk hst hW hlg
 obtain ⟨h3,h4⟩:=chk_eq hk
 have hst':∀(i:Nat) o,ops[i]?=some o→AStep X ops i o (T i) (H i) (T (i+1)) (H (i+1)) (W i):=fun i o ho=>hst i o (by simpa using ho)
 simp only [Array.length_toList] at h4 hW hlg
 refine ⟨_,_,h4,fun g a w hS hK Q hQ=>?_⟩
 have hfin:∀rho' a' w',Sim X { g with rho:=rho' } (T ops.size) (H ops.size) a' w'→KeyIn (T ops.size) (KOf ops fun _=>True)→Q .normal a' w':=by
  intro rho' a' w' hS' hK'
  refine hQ rho' a' w' ?_ ?_
  ·show Sim X _ (bif ops.all (fun o=>o.guard.isNone) then T ops.size else (T ops.size).map Eng.ungd) (H ops.size) a' w'
   cases hg:ops.all fun o=>o.guard.isNone with
   | true=>exact hS'
   | false=>exact hS'.ungd
  ·show KeyIn (bif ops.all (fun o=>o.guard.isNone) then T ops.size else (T ops.size).map Eng.ungd) _
   cases hg:ops.all fun o=>o.guard.isNone with
   | true =>
    refine hK'.mono fun s ⟨hn,_⟩=>hn fun o ho=>?_
    have:=(Array.all_eq_true'.1 hg) o ho
    simpa using this
   | false=>exact keyIn_ungd _ _
 cases draw with
 | false =>
  refine wp_region ?_
  rw [List.range_eq_range']
  exact lexical hX hR hsl hst' hfin ops.size 0 g.rho a w (by omega) (by rw [hT,hH];exact hS) (by rw [hT];exact hK.mono fun _ h=>h.elim)
 | true =>
  simp only [Bool.not_true,Bool.false_or,Bool.or_eq_true] at h3
  refine wp_region_any hX.mixed ?_
  have hL0:∀j,(Array.replicate ops.size false).getD j false=true→False:=by
   intro j h
   simp only [Array.getD_eq_getD_getElem?,Array.getElem?_replicate] at h
   split at h<;>simp at h
  have hcnt:unlisted ops.size (Array.replicate ops.size false)≤ops.size:=by
   have:=List.countP_le_length (p:=fun i=>!(Array.replicate ops.size false).getD i false) (l:=List.range ops.size)
   simpa [unlisted] using this
  have hgrow:Sim X { g with rho:=g.rho } S.tm S.hs a { w with drawn:=w.drawn+1 }:=hS.grow hX.pay ⟨rfl,rfl,rfl,Nat.le_refl _,fun _ _=>rfl,fun _=>Nat.le_succ _⟩
  rcases h3 with (h3 | h3) | h3 | h3
  ·refine anyorder hX hR hsl (T:=T) (H:=H) (drawOK_spec h3).1 (fun L tm hs=>∃b,AInv ops T H W L b tm hs) (fun L tm hs ⟨b,hI⟩ hdown _ i o ho hiL hpre=>?_) (fun L tm hs ⟨b,hI⟩ hall=>by obtain ⟨q1,q2⟩:=hI.fin hst' (hdis rfl) hall;exact ⟨q1,fun k=>by rw [q2]⟩) hfin
    ops.size _ S.tm S.hs g.rho a _ (by simp) ?_ (fun j h=>(hL0 j h).elim) (hK.mono fun _ h=>h.elim) hgrow hcnt
   ·obtain ⟨b',tm1,hs1,e1,e2,e3⟩:=AInv.step hst' (hdis rfl) hW h3 hI hdown ho hiL hpre
    exact ⟨_,tm1,hs1,e1,⟨b',e2⟩,e3⟩
   ·exact ⟨0,Nat.zero_le _,fun i hi=>by omega,fun i _ h=>(hL0 i h).elim,hH.symm,by rw [hT],fun i t _ h=>(hL0 i h).elim,fun t _=>by rw [hT]⟩
  ·refine anyorder hX hR hsl (T:=T) (H:=H) (drawB_spec h3).1 (fun L tm hs=>∃b,BInv ops T H W L b tm hs) (fun L tm hs ⟨b,hI⟩ hdown hLn i o ho hiL hpre=>?_) (fun L tm hs ⟨b,hI⟩ hall=>by obtain ⟨q1,q2⟩:=hI.fin hst' (hdis rfl) hW h3 hall;exact ⟨q1,fun k=>by rw [q2]⟩) hfin
    ops.size _ S.tm S.hs g.rho a _ (by simp) ?_ (fun j h=>(hL0 j h).elim) (hK.mono fun _ h=>h.elim) hgrow hcnt
   ·obtain ⟨b',tm1,hs1,e1,e2,e3⟩:=BInv.step hst' (hdis rfl) hW h3 hI hdown hLn ho hiL hpre
    exact ⟨_,tm1,hs1,e1,⟨b',e2⟩,e3⟩
   ·exact ⟨0,Nat.zero_le _,fun i o hi=>by omega,fun i _ h=>(hL0 i h).elim,hH.symm,by rw [hT],fun i t h=>(hL0 i h).elim,fun t _=>by rw [hT]⟩
  ·rw [←hT,←hH] at h3
   have hC:=drawC_spec (T:=T) (H:=H) (fun i o ho=>⟨_,hst' i o ho⟩) hlg h3
   refine anyorder hX hR hsl (T:=T) (H:=H) hC.back (fun L tm hs=>CInv X (makers ops.toList) ops T H L tm hs) (fun L tm hs hI hdown hLn i o ho hiL hpre=>?_) (fun L tm hs hI hall=>hI.fin hC (hdis rfl) hall) hfin
    ops.size _ S.tm S.hs g.rho a _ (by simp) ?_ (fun j h=>(hL0 j h).elim) (hK.mono fun _ h=>h.elim) hgrow hcnt
   ·obtain ⟨W,tm1,hs1,e1,e2⟩:=CInv.step hC (hdis rfl) hI hdown hLn ho hiL hpre
    exact ⟨W,tm1,hs1,e1,e2,fun j want hg=>by rw [hC.guard i o ho] at hg;simp at hg⟩
   ·rw [←hT,←hH]
    exact ⟨rfl,hC.okt,hC.okh,fun i t h=>(hL0 i h).elim,fun t _=>rfl,fun k=>⟨0,Nat.zero_le _,fun i oi _ _=>⟨fun h=>(hL0 i h).elim,fun h=>by omega⟩,rfl⟩⟩
  ·rw [←hT,←hH] at h3
   obtain ⟨K,hb,hC⟩:=drawW_spec (T:=T) (H:=H) (W:=W) hst' hW hlg h3
   refine anyorder hX hR hsl (T:=T) (H:=H) hC.back (fun L tm hs=>∃b,WInv ops W hb T H L b tm hs) (fun L tm hs ⟨b,hI⟩ hdown hLn i o ho hiL hpre=>?_) (fun L tm hs ⟨b,hI⟩ hall=>hI.fin hC (hdis rfl) hall) hfin
    ops.size _ S.tm S.hs g.rho a _ (by simp) ?_ (fun j h=>(hL0 j h).elim) (hK.mono fun _ h=>h.elim) hgrow hcnt
   ·obtain ⟨W',b',tm1,hs1,e1,e2⟩:=WInv.step hC (hdis rfl) hI hdown hLn ho hiL hpre
    exact ⟨W',tm1,hs1,e1,⟨b',e2⟩,fun j want hg=>by rw [hC.guard i o ho] at hg;simp at hg⟩
   ·rw [←hT,←hH]
    exact ⟨0,Nat.zero_le _,fun i hi=>by omega,fun i _ h=>(hL0 i h).elim,rfl,rfl,fun i t h=>(hL0 i h).elim,fun i t h=>(hL0 i h).elim,fun t _=>rfl⟩
def LoopOk (X:Ctx α) (L:LK α) (body:Code):Prop:=∀S b r,L (firstId body) S=some (b,r)→b=true→Goes X (.loop body) S (pickR r).1 (pickR r).2
theorem runR_eq {γ:Type} (k:Ex→St α→Option γ):∀r:LR α,runR r k=k (pickR r).1 (pickR r).2
 | .leaf e S=>rfl
 | .ite c x y=>by
  cases c with
  | true=>exact runR_eq k x
  | false=>exact runR_eq k y
theorem exec_sound (hX:XOk X) (hR:ROk X) {γ:Type} {RK:CK α γ} (hRK:CKOk X RK) (L:LK α) (c:γ):∀(code:Code) (_hL:∀b∈loopsOf code,LoopOk X L b) (S:St α) (k:Ex→St α→Option γ),exec X RK L code S k=some c →
  ∃e S',k e S'=some c∧Goes X code S e S'
 | .skip,hL,S,k,h=>⟨.normal,S,h,fun g a w hS hK Q hQ=>wp_skip (hQ g.rho a w hS hK)⟩
 | .region id ops draw,hL,S,k,h=>region_sound hX hR hRK L id ops draw S k c h
 | .seq x y,hL,S,k,h=>by
  obtain ⟨e,S1,h1,hg1⟩:=exec_sound hX hR hRK L c x (fun b hb=>hL b (by simp [loopsOf,hb])) S _ h
  cases e with
  | normal =>
   obtain ⟨e2,S2,h2,hg2⟩:=exec_sound hX hR hRK L c y (fun b hb=>hL b (by simp [loopsOf,hb])) S1 k h1
   exact ⟨e2,S2,h2,fun g a w hS hK Q hQ=>wp_seq (hg1 g a w hS hK _ fun rho' a' w' hS' hK'=>hg2 { g with rho:=rho' } a' w' hS' hK' Q fun rho'' a'' w''=>hQ rho'' a'' w'')⟩
  | exit id=>exact ⟨_,S1,h1,fun g a w hS hK Q hQ=>wp_seq (hg1 g a w hS hK _ hQ)⟩
  | ret=>exact ⟨_,S1,h1,fun g a w hS hK Q hQ=>wp_seq (hg1 g a w hS hK _ hQ)⟩
 | .cond x t f,hL,S,k,h=>by
  simp only [exec] at h
  split at h
  ·rename_i b hb
   have hv:∀(g:Gh) (a:Act) (w:World),Sim X g S.tm S.hs a w→a.eval x=.bool b:=by
    intro g a w hS
    have hv:=evK_sound hX hS (ks:=[]) (fun k hk=>by simp at hk) x
    rw [hb] at hv
    exact lit_eq hv
   cases b with
   | true =>
    obtain ⟨e,S1,h1,hg1⟩:=exec_sound hX hR hRK L c t (fun b hb=>hL b (by simp [loopsOf,hb])) S k h
    exact ⟨e,S1,h1,fun g a w hS hK Q hQ=>wp_cond (hv g a w hS) (hg1 g a w hS hK Q hQ)⟩
   | false =>
    obtain ⟨e,S1,h1,hg1⟩:=exec_sound hX hR hRK L c f (fun b hb=>hL b (by simp [loopsOf,hb])) S k h
    exact ⟨e,S1,h1,fun g a w hS hK Q hQ=>wp_cond (hv g a w hS) (hg1 g a w hS hK Q hQ)⟩
  ·simp at h
 | .block id body,hL,S,k,h=>by
  obtain ⟨e,S1,h1,hg1⟩:=exec_sound hX hR hRK L c body (fun b hb=>hL b (by simp [loopsOf,hb])) S _ h
  cases e with
  | normal=>exact ⟨_,S1,h1,fun g a w hS hK Q hQ=>wp_block (hg1 g a w hS hK _ hQ)⟩
  | exit id' =>
   simp only at h1
   cases hb:Nat.beq id' id with
   | true =>
    rw [hb] at h1
    refine ⟨.normal,S1,h1,fun g a w hS hK Q hQ=>wp_block (hg1 g a w hS hK _ fun rho' a' w' hS' hK'=>?_)⟩
    simp only [toExit,Exit.inBlock]
    rw [if_pos (Nat.eq_of_beq_eq_true hb)]
    exact hQ rho' a' w' hS' hK'
   | false =>
    rw [hb] at h1
    refine ⟨.exit id',S1,h1,fun g a w hS hK Q hQ=>wp_block (hg1 g a w hS hK _ fun rho' a' w' hS' hK'=>?_)⟩
    simp only [toExit,Exit.inBlock]
    rw [if_neg (fun h=>by rw [h] at hb;simp at hb)]
    exact hQ rho' a' w' hS' hK'
  | ret=>exact ⟨_,S1,h1,fun g a w hS hK Q hQ=>wp_block (hg1 g a w hS hK _ hQ)⟩
 | .loop body,hL,S,k,h=>by
  simp only [exec] at h
  split at h
  ·rename_i b r hl
   obtain ⟨h1,h2⟩:=chk_eq h
   rw [runR_eq] at h2
   exact ⟨_,_,h2,hL body (by simp [loopsOf]) S b r hl h1⟩
  have key:∀(n:Nat) (S:St α),loopD (fun S k=>exec X RK L body S k) n S k=some c→∃e S',k e S'=some c∧∀(g:Gh) (a:Act) (w:World),Sim X g S.tm S.hs a w→KeyIn S.tm (fun _=>False)→∀Q:Exit→Act→World→Prop,
    (∀rho' a' w',Sim X { g with rho:=rho' } S'.tm S'.hs a' w'→KeyIn S'.tm (fun _=>False)→Q (toExit e) a' w')→Code.rounds X.P body Q n a w:=by
   intro n
   induction n with
   | zero=>intro S h;simp [loopD] at h
   | succ n ih =>
    intro S h
    simp only [loopD] at h
    obtain ⟨e,S1,h1,hg1⟩:=exec_sound hX hR hRK L c body (fun b hb=>hL b (by simp [loopsOf,hb])) S _ h
    cases e with
    | normal =>
     obtain ⟨e2,S2,h2,hg2⟩:=ih S1 h1
     exact ⟨e2,S2,h2,fun g a w hS hK Q hQ=>hg1 g a w hS hK _ fun rho' a' w' hS' hK'=>hg2 { g with rho:=rho' } a' w' hS' hK' Q fun rho'' a'' w''=>hQ rho'' a'' w''⟩
    | exit id=>exact ⟨_,S1,h1,fun g a w hS hK Q hQ=>hg1 g a w hS hK _ hQ⟩
    | ret=>exact ⟨_,S1,h1,fun g a w hS hK Q hQ=>hg1 g a w hS hK _ hQ⟩
  obtain ⟨e,S1,h1,hg1⟩:=key X.N S h
  exact ⟨e,S1,h1,fun g a w hS hK Q hQ=>wp_loop_rounds X.N (hg1 g a w hS hK Q hQ)⟩
 | .exit id,hL,S,k,h=>⟨.exit id,S,h,fun g a w hS hK Q hQ=>wp_exit (hQ g.rho a w hS hK)⟩
 | .ret,hL,S,k,h=>⟨.ret,S,h,fun g a w hS hK Q hQ=>wp_ret (hQ g.rho a w hS hK)⟩
 | .rangeFunc ..,hL,S,k,h=>by simp [exec] at h
 | .scope ..,hL,S,k,h=>by simp [exec] at h
 | .label ..,hL,S,k,h=>by simp [exec] at h
 | .goto ..,hL,S,k,h=>by simp [exec] at h
 | .refuse ..,hL,S,k,h=>by simp [exec] at h
def maskT (keep:Nat→Bool):Nat→List (D α)→List (D α)
 | _,[]=>[]
 | i,d::r=>(bif keep i then d else .bad)::maskT keep (i+1) r
def maskS (keep:Nat→Bool) (S:St α):St α:=⟨maskT keep 0 S.tm,S.hs⟩
theorem maskT_length (keep:Nat→Bool):∀(l:List (D α)) (i:Nat),(maskT keep i l).length=l.length
 | [],_=>rfl
 | d::r,i=>by simp [maskT,maskT_length keep r (i+1)]
theorem maskT_get (keep:Nat→Bool):∀(l:List (D α)) (i t:Nat),getT (maskT keep i l) t=if keep (i+t)=true then getT l t else .bad
 | [],i,t=>by simp [maskT,getT]
 | d::r,i,0=>by
  simp only [maskT,getT,Nat.add_zero]
  cases keep i<;>simp
 | d::r,i,t+1=>by
  simp only [maskT,getT]
  rw [maskT_get keep r (i+1) t,show i+1+t=i+(t+1) by omega]
theorem Sim.mask {S:St α} {a:Act} {w:World} (keep:Nat→Bool) (hS:Sim X g S.tm S.hs a w):Sim X g (maskS keep S).tm (maskS keep S).hs a w:=by
 refine ⟨by simpa [maskS,maskT_length] using hS.size,fun t=>?_,hS.dfr,hS.obs,hS.inj,hS.own,hS.below,hS.av0,hS.lav,hS.top,hS.glob⟩
 simp only [maskS,maskT_get]
 split
 ·exact hS.tm t
 ·exact .bad _
theorem KeyIn.mask {S:St α} {K:Nat→Prop} (keep:Nat→Bool) (h:KeyIn S.tm K):KeyIn (maskS keep S).tm K:=by
 intro t ks b e he
 simp only [maskS,maskT_get] at he
 split at he
 ·exact h t ks b e he
 ·simp at he
theorem Goes.pre {code:Code} {S S':St α} {e:Ex} (keep:Nat→Bool) (h:Goes X code (maskS keep S) e S'):Goes X code S e S' :=
 fun g a w hS hK Q hQ=>h g a w (hS.mask keep) (hK.mask keep) Q hQ
theorem Goes.post {code:Code} {S S':St α} {e:Ex} (keep:Nat→Bool) (h:Goes X code S e S'):Goes X code S e (maskS keep S') :=
 fun g a w hS hK Q hQ=>h g a w hS hK Q fun rho' a' w' hS' hK'=>hQ rho' a' w' (hS'.mask keep) (hK'.mask keep)
def normS (keep:Nat→Bool) (ns:Nat→Bool) (S:St α):St α:=⟨maskT keep 0 (S.tm.map (kill ns)),killH ns (dropA ns S.hs)⟩
theorem Sim.forget (hX:XOk X) {S:St α} {a:Act} {w:World} (ns:Nat→Bool) (hS:Sim X g S.tm S.hs a w):Sim X g (S.tm.map (kill ns)) (killH ns (dropA ns S.hs)) a w:=by
 have hl:∀k,look (killH ns (dropA ns S.hs)) k=if ns k=true then none else (look S.hs k).map (killOb ns):=by
  intro k
  rw [look_killH,look_dropA]
  split<;>rfl
 have hk:KeepH ns S.hs (killH ns (dropA ns S.hs)) g.rho g.rho:=fun k hn=>⟨by rw [hl,if_neg (by rw [hn];simp)],rfl⟩
 have hno:∀k ob,ns k=true→look (killH ns (dropA ns S.hs)) k=some ob→False:=by
  intro k ob hn h
  rw [hl,if_pos hn] at h
  simp at h
 exact sim_step hX hS hk (toL (BelowD.refl _ _)) (cxLe_step hk (fun _ _ _ h=>h) (fun k ob b hn h=>(hno k ob hn h).elim) (fun b cells T fz h=>⟨cells,T,fz,h,rfl⟩)) (fun _ _ _ _ _ _=>rfl)
  (fun k ob hn h=>(hno k ob hn h).elim) (fun k ob b hn h=>(hno k ob hn h).elim) (fun k k' ob ob' b hn h=>(hno k ob hn h).elim) (fun k ob hn h=>(hno k ob hn h).elim)
theorem Goes.norm (hX:XOk X) {code:Code} {S S':St α} {e:Ex} (keep ns:Nat→Bool) (h:Goes X code S e S'):Goes X code S e (normS keep ns S') :=
 fun g a w hS hK Q hQ=>h g a w hS hK Q fun rho' a' w' hS' hK'=>hQ rho' a' w' (Sim.mask (S:=⟨_,_⟩) keep (hS'.forget hX ns)) (KeyIn.mask (S:=⟨S'.tm.map (kill ns),killH ns (dropA ns S'.hs)⟩) keep (hK'.kill ns))
theorem loop_goes {body:Code} {e:Ex} {S':St α} (he:e≠.normal):∀(n:Nat) (Sf:Nat→St α),(∀i,i < n→Goes X body (Sf i) .normal (Sf (i+1)))→Goes X body (Sf n) e S'→Goes X (.loop body) (Sf 0) e S':=by
 have key:∀(n:Nat) (Sf:Nat→St α),(∀i,i < n→Goes X body (Sf i) .normal (Sf (i+1)))→Goes X body (Sf n) e S' →
   ∀(g:Gh) (a:Act) (w:World),Sim X g (Sf 0).tm (Sf 0).hs a w→KeyIn (Sf 0).tm (fun _=>False)→∀Q:Exit→Act→World→Prop,
    (∀rho' a' w',Sim X { g with rho:=rho' } S'.tm S'.hs a' w'→KeyIn S'.tm (fun _=>False)→Q (toExit e) a' w')→Code.rounds X.P body Q (n+1) a w:=by
  intro n
  induction n with
  | zero =>
   intro Sf _ hl g a w hS hK Q hQ
   refine hl g a w hS hK _ ?_
   cases e with
   | normal=>exact absurd rfl he
   | exit id=>exact hQ
   | ret=>exact hQ
  | succ n ih =>
   intro Sf hs hl g a w hS hK Q hQ
   exact hs 0 (by omega) g a w hS hK _ fun rho' a' w' hS' hK'=>ih (fun i=>Sf (i+1)) (fun i hi=>hs (i+1) (by omega)) hl { g with rho:=rho' } a' w' hS' hK' Q fun rho'' a'' w''=>hQ rho'' a'' w''
 intro n Sf hs hl g a w hS hK Q hQ
 exact wp_loop_rounds (n+1) (key n Sf hs hl g a w hS hK Q hQ)
end
end Go.Eng
namespace Go.Eng
open Go.RowKit
variable {α:Type}
theorem getT_get (l:List (D α)) (t:Nat):getT l t=(l[t]?).getD .bad:=by
 induction l generalizing t with
 | nil=>simp [getT]
 | cons d r ih=>cases t<;>simp [getT,ih]
def resRun (tmps:Array Value):ResultVar→Sem Value
 | .tmp t=>pure (tmps.getD t undef)
 | .cell c t=>do loadVar t (←asAddr (tmps.getD c undef))
section
variable {X:Ctx α} {g:Gh} {tm:List (D α)} {hs:Obs α} {a:Act} {w:World}
theorem resultOf_sound (hX:XOk X) (hS:Sim X g tm hs a w) (r:ResultVar) (d:D α) (h:resultOf X ⟨tm,hs⟩ r=some d) :
  ∃v,(resRun a.tmps r).run X.P w=.ok v w∧RD X.C (cxOf g hs w) v d:=by
 have hnk:∀t,RD X.C (cxOf g hs w) (a.tmps.getD t undef) (strip [] (getT tm t)):=fun t=>RG.strip (fun k hk=>by simp at hk) (hS.tm t)
 cases r with
 | tmp t =>
  simp only [resultOf,Option.some.injEq] at h
  subst h
  exact ⟨_,rfl,hnk t⟩
 | cell c t =>
  simp only [resultOf] at h
  split at h
  ·rename_i cs off hc
   have hat:=cellsAt_sound hX hS (hnk c) hc
   obtain ⟨u,h1,h2⟩:=loadD_sound (P:=X.P) hat h
   refine ⟨u,?_,h2⟩
   obtain ⟨b,o,hv,_⟩:=hat
   simp only [Instr.loadAt,hv,Instr.sureAddr,Sem.run_bind,Sem.run_pure,Result.andThen_ok] at h1
   simp only [resRun,hv,asAddr,Sem.run_bind,Sem.run_pure,Result.andThen_ok]
   exact h1
  ·simp at h
theorem resultsOf_sound (hX:XOk X) (hS:Sim X g tm hs a w):∀(l:List ResultVar) (ds:List (D α)),resultsOf X ⟨tm,hs⟩ l=some ds →
  ∃vs,(l.mapM (resRun a.tmps)).run X.P w=.ok vs w∧vs.length=ds.length∧∀(i:Nat) v c,vs[i]?=some v→ds[i]?=some c→RD X.C (cxOf g hs w) v c
 | [],ds,h=>by
  simp only [resultsOf,Option.some.injEq] at h
  subst h
  exact ⟨[],by simp,rfl,fun i v c h=>by simp at h⟩
 | r::l,ds,h=>by
  simp only [resultsOf] at h
  split at h
  ·rename_i d ds' h1 h2
   simp only [Option.some.injEq] at h
   subst h
   obtain ⟨v,e1,e2⟩:=resultOf_sound hX hS r d h1
   obtain ⟨vs,e3,e4,e5⟩:=resultsOf_sound hX hS l ds' h2
   refine ⟨v::vs,by simp [List.mapM_cons,e1,e3],by simp [e4],fun i u c hu hc=>?_⟩
   cases i with
   | zero=>simp only [List.getElem?_cons_zero,Option.some.injEq] at hu hc;subst hu hc;exact e2
   | succ i=>exact e5 i u c (by simpa using hu) (by simpa using hc)
  ·simp at h
def atV:List Nat→Value→Option Value
 | [],v=>some v
 | i::r,.agg vs=>match vs[i]? with
  | some c=>atV r c
  | none=>none
 | i::r,.tuple vs=>match vs[i]? with
  | some c=>atV r c
  | none=>none
 | _::_,_=>none
def putV:List Nat→Value→Value→Value
 | [],x,_=>x
 | i::r,x,.agg vs=>match vs[i]? with
  | some c=>.agg (vs.setIfInBounds i (putV r x c))
  | none=>.agg vs
 | i::r,x,.tuple vs=>match vs[i]? with
  | some c=>.tuple (vs.setIfInBounds i (putV r x c))
  | none=>.tuple vs
 | _::_,_,v=>v
theorem RD.at {C:Pay α} {cx:Cx α}:∀(k:List Nat) (v:Value) (d d0:D α),RD C cx v d→atP k d=some d0→∃u,atV k v=some u∧RD C cx u d0
 | [],v,d,d0,h,hk=>by simp only [atP,Option.some.injEq] at hk;subst hk;exact ⟨v,rfl,h⟩
 | i::r,v,d,d0,h,hk=>by
  cases d
  case agg cs =>
   simp only [atP] at hk
   split at hk
   ·rename_i c hc
    cases h with
    | agg vs _ hs h1 hrd =>
     have hlt:i < cs.length:=(List.getElem?_eq_some_iff.1 hc).1
     have hv:vs[i]?=some (vs[i]'(by omega)):=Array.getElem?_eq_getElem (by omega)
     obtain ⟨u,h2,h3⟩:=RD.at r _ c d0 (hrd i _ c hv hc) hk
     exact ⟨u,by simp only [atV,hv];exact h2,h3⟩
   ·simp at hk
  case tup cs =>
   simp only [atP] at hk
   split at hk
   ·rename_i c hc
    cases h with
    | tup vs _ hs hrd =>
     have hlt:i < cs.length:=(List.getElem?_eq_some_iff.1 hc).1
     have hv:vs[i]?=some (vs[i]'(by omega)):=Array.getElem?_eq_getElem (by omega)
     obtain ⟨u,h2,h3⟩:=RD.at r _ c d0 (hrd i _ c hv hc) hk
     exact ⟨u,by simp only [atV,hv];exact h2,h3⟩
   ·simp at hk
  all_goals simp [atP] at hk
theorem setT_getElem (l:List (D α)) (i j:Nat) (x:D α):(setT l i x)[j]?=if i=j∧j < l.length then some x else l[j]?:=by
 induction l generalizing i j with
 | nil=>simp [setT]
 | cons c r ih =>
  cases i with
  | zero=>cases j<;>simp [setT]
  | succ i =>
   cases j with
   | zero=>simp [setT]
   | succ j=>simp [setT,ih]
theorem setT_len (l:List (D α)) (i:Nat) (x:D α):(setT l i x).length=l.length:=by
 induction l generalizing i with
 | nil=>rfl
 | cons c r ih=>cases i<;>simp [setT,ih]
theorem oneCell_putV (u:Value) (hu:u.oneCell'=true):∀(k:List Nat) (v d0:Value),v.oneCell'=true→atV k v=some d0→(putV k u v).oneCell'=true
 | [],_,_,_,_=>hu
 | i::r,v,d0,hv,h=>by
  cases v
  case agg vs=>simp [Value.oneCell'] at hv
  case tuple vs=>simp [Value.oneCell'] at hv
  all_goals simp [atV] at h
theorem RD.put {C:Pay α} {cx:Cx α} {u:Value} {x:D α} (hux:RD C cx u x) (hu:u.oneCell'=true):∀(k:List Nat) (v:Value) (d d0:D α),RD C cx v d→atP k d=some d0→RD C cx (putV k u v) (putP k x d)
 | [],v,d,d0,h,hk=>hux
 | i::r,v,d,d0,h,hk=>by
  cases d
  case agg cs =>
   simp only [atP] at hk
   split at hk
   ·rename_i c hc
    cases h with
    | agg vs _ hs h1 hrd =>
     have hlt:i < cs.length:=(List.getElem?_eq_some_iff.1 hc).1
     have hv:vs[i]?=some (vs[i]'(by omega)):=Array.getElem?_eq_getElem (by omega)
     have ih:=RD.put hux hu r _ c d0 (hrd i _ c hv hc) hk
     obtain ⟨w,hw,_⟩:=RD.at r _ c d0 (hrd i _ c hv hc) hk
     simp only [putV,hv,putP,hc]
     refine .agg _ _ (by simp [setT_len,hs]) (fun j y hy=>?_) fun j y e hy he=>?_
     ·rw [Array.getElem?_setIfInBounds] at hy
      split at hy
      ·split at hy
       ·simp only [Option.some.injEq] at hy;subst hy;exact oneCell_putV u hu r _ w (h1 i _ hv) hw
       ·simp at hy
      ·exact h1 j y hy
     ·rw [Array.getElem?_setIfInBounds] at hy
      rw [setT_getElem] at he
      by_cases hij:i=j
      ·subst hij
       rw [if_pos rfl,if_pos (by omega)] at hy
       rw [if_pos ⟨rfl,hlt⟩] at he
       simp only [Option.some.injEq] at hy he
       subst hy he
       exact ih
      ·rw [if_neg hij] at hy
       rw [if_neg (fun h=>hij h.1)] at he
       exact hrd j y e hy he
   ·simp at hk
  case tup cs =>
   simp only [atP] at hk
   split at hk
   ·rename_i c hc
    cases h with
    | tup vs _ hs hrd =>
     have hlt:i < cs.length:=(List.getElem?_eq_some_iff.1 hc).1
     have hv:vs[i]?=some (vs[i]'(by omega)):=Array.getElem?_eq_getElem (by omega)
     have ih:=RD.put hux hu r _ c d0 (hrd i _ c hv hc) hk
     simp only [putV,hv,putP,hc]
     refine .tup _ _ (by simp [setT_len,hs]) fun j y e hy he=>?_
     rw [Array.getElem?_setIfInBounds] at hy
     rw [setT_getElem] at he
     by_cases hij:i=j
     ·subst hij
      rw [if_pos rfl,if_pos (by omega)] at hy
      rw [if_pos ⟨rfl,hlt⟩] at he
      simp only [Option.some.injEq] at hy he
      subst hy he
      exact ih
     ·rw [if_neg hij] at hy
      rw [if_neg (fun h=>hij h.1)] at he
      exact hrd j y e hy he
   ·simp at hk
  all_goals simp [atP] at hk
theorem putV_back:∀(k:List Nat) (v u y:Value),atV k v=some u→putV k u (putV k y v)=v
 | [],v,u,y,h=>by simp only [atV,Option.some.injEq] at h;subst h;rfl
 | i::r,v,u,y,h=>by
  cases v
  case agg vs =>
   simp only [atV] at h
   split at h
   ·rename_i c hc
    obtain ⟨hi,hc'⟩:=Array.getElem?_eq_some_iff.1 hc
    have:=putV_back r c u y h
    simp only [putV,hc]
    rw [Array.getElem?_setIfInBounds,if_pos rfl,if_pos hi]
    simp only
    rw [this,Array.setIfInBounds_setIfInBounds,←hc',Array.setIfInBounds_def,dif_pos hi]
    simp
   ·simp at h
  case tuple vs =>
   simp only [atV] at h
   split at h
   ·rename_i c hc
    obtain ⟨hi,hc'⟩:=Array.getElem?_eq_some_iff.1 hc
    have:=putV_back r c u y h
    simp only [putV,hc]
    rw [Array.getElem?_setIfInBounds,if_pos rfl,if_pos hi]
    simp only
    rw [this,Array.setIfInBounds_setIfInBounds,←hc',Array.setIfInBounds_def,dif_pos hi]
    simp
   ·simp at h
  all_goals simp [atV] at h
theorem atP_putP:∀(k:List Nat) (x d d0:D α),atP k d=some d0→atP k (putP k x d)=some x
 | [],x,d,d0,_=>rfl
 | i::r,x,d,d0,h=>by
  cases d
  case agg cs =>
   simp only [atP] at h
   split at h
   ·rename_i c hc
    have hlt:i < cs.length:=(List.getElem?_eq_some_iff.1 hc).1
    simp only [putP,hc,atP,setT_getElem]
    rw [if_pos ⟨trivial,hlt⟩]
    exact atP_putP r x c d0 h
   ·simp at h
  case tup cs =>
   simp only [atP] at h
   split at h
   ·rename_i c hc
    have hlt:i < cs.length:=(List.getElem?_eq_some_iff.1 hc).1
    simp only [putP,hc,atP,setT_getElem]
    rw [if_pos ⟨trivial,hlt⟩]
    exact atP_putP r x c d0 h
   ·simp at h
  all_goals simp [atP] at h
theorem setT_setT (l:List (D α)) (i:Nat) (x y:D α):setT (setT l i y) i x=setT l i x:=by
 induction l generalizing i with
 | nil=>rfl
 | cons c r ih=>cases i<;>simp [setT,ih]
theorem putP_putP:∀(k:List Nat) (x y d d0:D α),atP k d=some d0→putP k x (putP k y d)=putP k x d
 | [],x,y,d,d0,_=>rfl
 | i::r,x,y,d,d0,h=>by
  cases d
  case agg cs =>
   simp only [atP] at h
   split at h
   ·rename_i c hc
    have hlt:i < cs.length:=(List.getElem?_eq_some_iff.1 hc).1
    simp only [putP,hc,setT_getElem]
    rw [if_pos ⟨trivial,hlt⟩]
    simp only [setT_setT,putP_putP r x y c d0 h]
   ·simp at h
  case tup cs =>
   simp only [atP] at h
   split at h
   ·rename_i c hc
    have hlt:i < cs.length:=(List.getElem?_eq_some_iff.1 hc).1
    simp only [putP,hc,setT_getElem]
    rw [if_pos ⟨trivial,hlt⟩]
    simp only [setT_setT,putP_putP r x y c d0 h]
   ·simp at h
  all_goals simp [atP] at h
theorem resultsRun (hX:XOk X) (hS:Sim X g tm hs a w) (fn:Func) (ds:List (D α)) (hds:resultsOf X ⟨tm,hs⟩ fn.results.toList=some ds) :
  ∃vs:List Value,(results fn a.tmps).run X.P w=.ok (if h:vs.toArray.size=1 then vs.toArray[0] else .tuple vs.toArray) w∧vs.length=ds.length∧∀(i:Nat) v c,vs[i]?=some v→ds[i]?=some c→RD X.C (cxOf g hs w) v c:=by
 obtain ⟨vs,h1,h2,h3⟩:=resultsOf_sound hX hS _ _ hds
 refine ⟨vs,?_,h2,h3⟩
 have hrun:(fn.results.mapM (resRun a.tmps)).run X.P w=.ok vs.toArray w:=by
  rw [Array.mapM_eq_mapM_toList]
  simp [h1]
 have:(results fn a.tmps)=(do
   let vs ←fn.results.mapM (resRun a.tmps)
   pure (if h:vs.size=1 then vs[0] else .tuple vs)):=by
  unfold results
  congr 1
 rw [this]
 simp [hrun]
theorem own_out (hX:XOk X) (hS:Sim X g tm hs a w) {k:List Nat} {o:Nat} {p:α} (hlo:look hs o=some (.arr false p)) {v:Value} {d l:D α} {ns:List Nat} (hr:RD X.C (cxOf g hs w) v d) (hat:atP k d=some (.arr o))
  (hl:lend X.C hs 40 (putP k .nilS d)=some (l,ns)) (hns:memN ns o=false) (hk:atP k l=some .nilS) :
  RD X.C (cx0 w g.av0) v (putP k (.pl p .any) l)∧(∀o',RD X.C (cxN w g.av0 o' (g.rho o) p) v (putP k (.arr o') l)∧ObRel X.C (cxN w g.av0 o' (g.rho o) p) (g.rho o) (.arr false p)):=by
 obtain ⟨u,hu,hru⟩:=RD.at k v d _ hr hat
 have hnil:RD X.C (cxOf g hs w) (putV k (.slice none 0 0) v) (putP k .nilS d):=RD.put .nilS rfl k v d _ hr hat
 have hone:u.oneCell'=true:=by cases hru<;>rfl
 have hback:=putV_back k v u (.slice none 0 0) hu
 have hself:=(lend_sound hX hS g.av0 (fun b hb=>.inl hb) 40).1 (.arr o) u (.pl p .any) [o] hru (by simp [lend,hlo]) (fun o' ob b _ hlo' hr' hb=>hS.not0 hlo' hr' hb)
 have hrest:=(lend_sound hX hS (fun b=>g.av0 b∨g.rho o=some b) (fun b hb=>by
  rcases hb with hb | hb
  ·exact .inl hb
  ·exact .inr ⟨o,_,hlo,rfl,hb⟩) 40).1 _ _ l ns hnil hl (fun o' ob b ho' hlo' hr' hb=>by
  rcases hb with hb | hb
  ·exact hS.not0 hlo' hr' hb
  ·have:=hS.inj o o' _ ob b hlo hlo' hb hr'
   subst this
   rw [←memN_iff,hns] at ho'
   simp at ho')
 refine ⟨?_,fun o'=>⟨?_,?_⟩⟩
 ·have h1:RD X.C (cx0 w g.av0) (putV k (.slice none 0 0) v) l:=RD.grow hX.pay (cx:=cx0 w fun b=>g.av0 b∨g.rho o=some b) (cx':=cx0 w g.av0) ⟨fun b ob _ h=>h,fun b ob _ h h'=>h (.inl h'),fun _ _ _ h=>by simp [cx0] at h,fun _ _ _ _ h=>by simp [cx0] at h,fun b cells T fz h=>⟨cells,T,fz,h,rfl⟩⟩ hrest
  have:=RD.put hself hone k _ l _ h1 hk
  rwa [hback] at this
 ·have h1:RD X.C (cxN w g.av0 o' (g.rho o) p) (putV k (.slice none 0 0) v) l:=RD.grow hX.pay (cx:=cx0 w fun b=>g.av0 b∨g.rho o=some b) (cx':=cxN w g.av0 o' (g.rho o) p) ⟨fun b ob _ h=>h,fun b ob _ h h'=>h h',fun _ _ _ h=>by simp [cx0] at h,fun _ _ _ _ h=>by simp [cx0] at h,fun b cells T fz h=>⟨cells,T,fz,h,rfl⟩⟩ hrest
  have har:(cxOf g hs w).ar o=some (g.rho o,p):=by simp only [cxOf,hlo]
  have har':(cxN w g.av0 o' (g.rho o) p).ar o'=some (g.rho o,p):=by simp [cxN]
  have h2:RD X.C (cxN w g.av0 o' (g.rho o) p) u (.arr o'):=by
   cases hru with
   | arrO _ b q n c ho hn hc hsz =>
    rw [har] at ho
    simp only [Option.some.injEq,Prod.mk.injEq] at ho
    obtain ⟨h3,rfl⟩:=ho
    exact .arrO o' b p n c (by rw [har',h3]) hn hc hsz
   | arrN _ q a ho hn =>
    rw [har] at ho
    simp only [Option.some.injEq,Prod.mk.injEq] at ho
    obtain ⟨h3,rfl⟩:=ho
    exact .arrN o' p a (by rw [har',h3]) hn
  have:=RD.put h2 hone k _ l _ h1 hk
  rwa [hback] at this
 ·have hle:CxLe X.C (fun _=>true) (cxOf g hs w) (cxN w g.av0 o' (g.rho o) p):=⟨fun b ob _ h=>h,fun b ob _ h h'=>by
   rcases h' with h' | h'
   ·exact h (.inl h')
   ·exact h (.inr ⟨o,_,hlo,rfl,h'⟩),fun _ _ h=>by simp at h,fun _ _ _ h=>by simp at h,fun b cells T fz h=>⟨cells,T,fz,h,rfl⟩⟩
  have h0:=hS.obs o _ hlo
  cases hrho:g.rho o with
  | none=>rw [hrho] at h0;exact h0
  | some b' =>
   rw [hrho] at h0 hle
   obtain ⟨cells,T,h1,h2,h3,h4,h5⟩:=h0
   exact ⟨cells,T,h1,h2,h3,h4,fun i j v d hi hv hd=>RD.closedTo hX.pay hle (hX.pay.clo p i d (List.mem_of_getElem? hd)) (h5 i j v d hi hv hd)⟩
theorem tuple_len {C:Pay α} {cx:Cx α} {k:List Nat} {vs:Array Value} {m:List (D α)} {x y:D α} (hk:atP k (.tup m)=some y) (h:RD C cx (.tuple vs) (putP k x (.tup m))) (hy:y=.nilS:=by rfl):vs.size=m.length:=by
 have h5:∀{d':D α},RD C cx (.tuple vs) d'→∀l,d'=.tup l→vs.size=l.length:=by
  intro d' hd' l hl
  subst hl
  cases hd' with
  | tup _ _ hs' _=>exact hs'
 cases k with
 | nil=>simp only [atP,Option.some.injEq] at hk;rw [←hk] at hy;simp at hy
 | cons i r =>
  simp only [putP] at h
  split at h
  ·have:=h5 h _ rfl;rwa [setT_len] at this
  ·exact h5 h _ rfl
theorem lend_now (n:Nat) (d x:D α) (ns:List Nat) (h:lend X.C hs n d=some (x,ns)) {n0:Nat} {av:Nat→Prop} {v:Value} {w':World}:OwnPost X.C n0 av v w' x:=by
 cases n with
 | zero=>simp [lend] at h
 | succ n =>
  cases d<;>simp only [lend] at h<;>(repeat' split at h)<;>simp only [Option.some.injEq,Prod.mk.injEq,reduceCtorEq] at h<;>obtain ⟨rfl,_⟩:=h<;>trivial
theorem lendAll_now (ds:List (D α)) (c:D α) (ns:List Nat) (h:lendAll X.C hs ds=some ([c],ns)) {n0:Nat} {av:Nat→Prop} {v:Value} {w':World}:OwnPost X.C n0 av v w' c:=by
 cases ds with
 | nil=>simp [lendAll] at h
 | cons d r =>
  simp only [lendAll] at h
  split at h
  ·rename_i x ms l0 ns0 h1 h2
   simp only [Option.some.injEq,Prod.mk.injEq,List.cons.injEq] at h
   obtain ⟨⟨rfl,_⟩,_⟩:=h
   exact lend_now 40 _ _ _ h1
  ·simp at h
theorem finD_sound (hX:XOk X) (hS:Sim X g tm hs a w) (hL0:∀b,¬ g.lent b) (fn:Func) (d:D α) (h:finD X fn ⟨tm,hs⟩=some d) :
  ∃v,(results fn a.tmps).run X.P w=.ok v w∧RD X.C (cx0 w g.av0) v d∧OwnPost X.C g.w0.heap.size g.av0 v w d:=by
 unfold finD at h
 split at h
 ·rename_i ds hds
  split at h
  ·rename_i d' hown
   simp only [Option.some.injEq] at h
   subst h
   cases ho:X.own with
   | false=>rw [ho] at hown;simp at hown
   | true =>
   rw [ho] at hown
   simp only [cond_true] at hown
   split at hown
   ·rename_i k o _
    obtain ⟨vs,h1,h2,h3⟩:=resultsRun hX hS fn ds hds
    refine ⟨_,h1,?_⟩
    have hT:RD X.C (cxOf g hs w) (.tuple vs.toArray) (.tup ds):=.tup _ _ (by simpa using h2) (fun i v c hv hc=>h3 i v c (by simpa using hv) hc)
    unfold finOwn at hown
    split at hown
    ·rename_i p o' hlo hat
     cases hoo:Nat.beq o o' with
     | false=>rw [hoo] at hown;simp at hown
     | true =>
     rw [hoo] at hown
     obtain rfl:=Nat.eq_of_beq_eq_true hoo
     simp only [cond_true] at hown
     split at hown
     ·rename_i l ns hl
      cases hc:memN ns o||!(closed l) with
      | true=>rw [hc] at hown;simp at hown
      | false =>
      rw [hc] at hown
      simp only [Bool.or_eq_false_iff] at hc
      simp only [cond_false] at hown
      have hbn:∀b,g.rho o=some b→g.w0.heap.size≤b∧b < w.heap.size:=fun b hb=>⟨(hS.own o _ b hlo hb).1.resolve_right (hL0 b),(hS.own o _ b hlo hb).2⟩
      split at hown
      ·rename_i e r _ hk
       simp only [Option.some.injEq] at hown
       subst hown
       obtain ⟨q1,q2⟩:=own_out hX hS hlo hT hat hl hc.1 hk
       have hat1:atP r e=some .nilS:=by simpa [atP] using hk
       have hlen:vs.length=1:=by
        cases q1 with
        | tup _ _ hs' _=>simpa [putP,setT] using hs'
       obtain ⟨v,rfl⟩:=List.length_eq_one_iff.1 hlen
       simp only [List.size_toArray,List.length_singleton,dite_true]
       have hone:∀{cx:Cx α} {x:D α},RD X.C cx (.tuple #[v]) (putP (0::r) x (.tup [e]))→RD X.C cx v (putP r x e):=by
        intro cx x hx
        cases hx with
        | tup _ _ _ hrd=>exact hrd 0 v _ (by simp) (by simp [setT])
       refine ⟨.ow r v _ (hone q1),fun p' kk hp'=>⟨g.rho o,hbn,fun o'=>?_⟩⟩
       rw [atP_putP r _ e _ hat1] at hp'
       simp only [Option.some.injEq,D.pl.injEq] at hp'
       obtain ⟨rfl,_⟩:=hp'
       obtain ⟨q3,q4⟩:=q2 o'
       rw [putP_putP r _ _ e _ hat1]
       exact ⟨hone q3,q4⟩
      ·rename_i x y z _ hk
       simp only [Option.some.injEq] at hown
       subst hown
       obtain ⟨q1,q2⟩:=own_out hX hS hlo hT hat hl hc.1 hk
       have hlen:¬ vs.toArray.size=1:=by
        have:=tuple_len hk q1
        simp only [List.length_cons] at this
        omega
       simp only [hlen,dite_false]
       refine ⟨.ow _ _ _ q1,fun p' kk hp'=>⟨g.rho o,hbn,fun o'=>?_⟩⟩
       rw [atP_putP _ _ _ _ hk] at hp'
       simp only [Option.some.injEq,D.pl.injEq] at hp'
       obtain ⟨rfl,_⟩:=hp'
       obtain ⟨q3,q4⟩:=q2 o'
       rw [putP_putP _ _ _ _ _ hk]
       exact ⟨q3,q4⟩
      ·simp at hown
     ·simp at hown
    ·simp at hown
   ·simp at hown
  split at h
  ·rename_i l ns hl
   cases hc:closedL l with
   | false=>simp [hc] at h
   | true =>
   simp only [hc,cond_true,Option.some.injEq] at h
   obtain ⟨vs,h1,h2,h3⟩:=resultsOf_sound hX hS _ _ hds
   obtain ⟨hlen,hget⟩:=lendAll_sound hX hS g.av0 (fun b hb=>.inl hb) ds l ns hl (fun o ob b _ hlo hr hb=>hS.not0 hlo hr hb)
   have hrel:∀(i:Nat) v c,vs[i]?=some v→l[i]?=some c→RD X.C (cx0 w g.av0) v c:=by
    intro i v c hv hc
    have hi:i < ds.length:=by
     rcases Nat.lt_or_ge i ds.length with h | h
     ·exact h
     ·rw [List.getElem?_eq_none (by omega)] at hc;simp at hc
    have hdi:ds[i]?=some ds[i]:=by simp [hi]
    exact hget i v _ c hdi hc (h3 i v _ hv hdi)
   have hrun:(fn.results.mapM (resRun a.tmps)).run X.P w=.ok vs.toArray w:=by
    rw [Array.mapM_eq_mapM_toList]
    simp [h1]
   have hres:(results fn a.tmps).run X.P w=.ok (if h:vs.toArray.size=1 then vs.toArray[0] else .tuple vs.toArray) w:=by
    have:(results fn a.tmps)=(do
      let vs ←fn.results.mapM (resRun a.tmps)
      pure (if h:vs.size=1 then vs[0] else .tuple vs)):=by
     unfold results
     congr 1
    rw [this]
    simp [hrun]
   refine ⟨_,hres,?_⟩
   subst h
   by_cases h1':vs.length=1
   ·obtain ⟨v,rfl⟩:=List.length_eq_one_iff.1 h1'
    have:l.length=1:=by simp at h2;omega
    obtain ⟨c,rfl⟩:=List.length_eq_one_iff.1 this
    simp only [List.size_toArray,List.length_singleton,dite_true,packR]
    exact ⟨hrel 0 v c rfl rfl,lendAll_now ds c ns hl⟩
   ·have hp:packR l=.tup l:=by
     unfold packR
     split
     ·simp at hlen;omega
     ·rfl
    rw [hp]
    simp only [List.size_toArray,h1',dite_false]
    exact ⟨.tup _ _ (by simp;omega) (fun i v c hv hc=>hrel i v c (by simpa using hv) hc),trivial⟩
  ·simp at h
 ·simp at h
theorem globOr {C:Pay α} {glob:Nat→Option (List (D α))} {w:World} {av:Nat→Prop} (h:GlobOk C glob w av):GlobOk C glob w (fun b=>av b∨False):=by
 have:(fun b=>av b∨False)=av:=by funext b;simp
 rw [this];exact h
theorem fnK_sound (hX:XOk X) (hR:ROk X) {γ:Type} {RK:CK α γ} (hRK:CKOk X RK) {L:LK α} {f:FuncId} {fn:Func} {ds:List (D α)} {k:D α→Option γ} {c:γ} (hf:X.P.funcs[f]?=some fn) (hn:(fn.name=="runtime.NumGoroutine")=false)
  (hL:∀code,fn.body=some code→∀b∈loopsOf code,LoopOk X L b) (h:fnK X RK L fn ds k=some c):∃d,k d=some c∧SoundAt X.P X.C X.glob f ds d:=by
 unfold fnK at h
 split at h
 ·rename_i cd hb
  obtain ⟨e,S',he,hgo⟩:=exec_sound hX hR hRK L c cd (hL cd hb) ⟨_,[]⟩ _ h
  obtain ⟨d,hkd,hfd,hne⟩:∃d,k d=some c∧finD X fn S'=some d∧∀id,e≠.exit id:=by
   cases e with
   | exit id=>simp at he
   | normal =>
    simp only at he
    split at he
    ·rename_i d hd;exact ⟨d,he,hd,by simp⟩
    ·simp at he
   | ret =>
    simp only at he
    split at he
    ·rename_i d hd;exact ⟨d,he,hd,by simp⟩
    ·simp at he
  refine ⟨d,hkd,?_⟩
  intro w av vs hgl hav hsz hrel
  have hn':¬ fn.name="runtime.NumGoroutine" := by simpa using hn
  refine .inl ⟨by simp [callFunc,hf,hn',hb],calls_of_wp hf hb ?_⟩
  have hget:∀t,RG X.C (cxOf ⟨w,av,fun _=>none,fun _=>False,fun _=>none⟩ ([]:Obs α) w) (vs++Array.replicate (fn.ntmps - vs.size) undef) ((vs++Array.replicate (fn.ntmps - vs.size) undef).getD t undef) (getT (ds++List.replicate (fn.ntmps - ds.length) .bad) t):=by
   intro t
   rw [getT_get,Array.getD_eq_getD_getElem?,Array.getElem?_append,List.getElem?_append]
   by_cases ht:t < vs.size
   ·rw [if_pos ht,if_pos (by omega)]
    have h1:vs[t]?=some vs[t]:=by simp [ht]
    have h2:ds[t]?=some (ds[t]'(by omega)):=by simp
    rw [h1,h2]
    simp only [Option.getD_some]
    refine RG.of (RD.grow hX.pay (cx:=cx0 w av) (cx':=cxOf ⟨w,av,fun _=>none,fun _=>False,fun _=>none⟩ ([]:Obs α) w) ⟨fun b ob _ h=>h,fun b ob _ h h'=>?_,fun _ _ _ h=>by simp [cx0] at h,fun _ _ _ _ h=>by simp [cx0] at h,fun b cells T fz h=>⟨cells,T,fz,h,rfl⟩⟩ (hrel t _ _ h1 h2))
    rcases h' with h' | ⟨o,ob,ho,_⟩
    ·exact h h'
    ·simp [look] at ho
   ·rw [if_neg ht,if_neg (by omega),List.getElem?_replicate]
    split<;>exact .bad _
  have hS:Sim X ⟨w,av,fun _=>none,fun _=>False,fun _=>none⟩ (ds++List.replicate (fn.ntmps - ds.length) .bad) [] { tmps:=vs++Array.replicate (fn.ntmps - vs.size) undef,defers:=[] } w :=
   ⟨by simp;omega,hget,rfl,fun o ob ho=>by simp [look] at ho,fun o o' ob ob' b ho=>by simp [look] at ho,fun o ob b ho=>by simp [look] at ho,toL (BelowD.refl _ _),hav,fun _ h=>h.elim,fun _ _ h=>by simp at h,globOr hgl⟩
  have hK:KeyIn (ds++List.replicate (fn.ntmps - ds.length) (.bad:D α)) (fun _=>False):=by
   intro t ks b e ht
   rw [getT_get,List.getElem?_append] at ht
   by_cases h':t < ds.length
   ·rw [if_pos h'] at ht
    have h1:vs[t]?=some (vs[t]'(by omega)):=by simp
    have h2:ds[t]?=some ds[t]:=by simp [h']
    rw [h2] at ht
    simp only [Option.getD_some] at ht
    have:=hrel t _ _ h1 h2
    rw [ht] at this
    exact this.noGd.elim
   ·rw [if_neg h',List.getElem?_replicate] at ht
    split at ht<;>simp at ht
  refine hgo ⟨w,av,fun _=>none,fun _=>False,fun _=>none⟩ _ w hS hK _ fun rho' a' w' hS' hK'=>?_
  have hfin:a'.defers=[]∧∃v,(results fn a'.tmps).run X.P w'=.ok v w'∧∃v',Ending.returned v=.returned v'∧RD X.C (cx0 w' av) v' d∧BelowD X.C.dr w.heap.size w w'∧OwnPost X.C w.heap.size av v' w' d:=by
   obtain ⟨v,h1,h2,h3⟩:=finD_sound hX hS' (fun _ h=>h) fn d hfd
   exact ⟨hS'.dfr,v,h1,v,rfl,h2,hS'.below.none,h3⟩
  cases e with
  | normal=>exact hfin
  | exit id=>exact absurd rfl (hne id)
  | ret=>exact hfin
 ·simp at h
theorem results_of (hX:XOk X) (hS:Sim X g tm hs a w) (fn:Func) (ds:List (D α)) (hds:resultsOf X ⟨tm,hs⟩ fn.results.toList=some ds) {cx:Cx α} {l:List (D α)} (hlen:l.length=ds.length)
  (hget:∀(i:Nat) v c c',ds[i]?=some c→l[i]?=some c'→RD X.C (cxOf g hs w) v c→RD X.C cx v c'):∃v,(results fn a.tmps).run X.P w=.ok v w∧RD X.C cx v (packR l):=by
 obtain ⟨vs,h1,h2,h3⟩:=resultsRun hX hS fn ds hds
 refine ⟨_,h1,?_⟩
 have hrel:∀(i:Nat) v c,vs[i]?=some v→l[i]?=some c→RD X.C cx v c:=by
  intro i v c hv hc
  have hi:i < ds.length:=by
   rcases Nat.lt_or_ge i ds.length with h | h
   ·exact h
   ·rw [List.getElem?_eq_none (by omega)] at hc;simp at hc
  have hdi:ds[i]?=some ds[i]:=by simp [hi]
  exact hget i v _ c hdi hc (h3 i v _ hv hdi)
 by_cases h1':vs.length=1
 ·obtain ⟨v,rfl⟩:=List.length_eq_one_iff.1 h1'
  have:l.length=1:=by simp at h2;omega
  obtain ⟨c,rfl⟩:=List.length_eq_one_iff.1 this
  simp only [List.size_toArray,List.length_singleton,dite_true,packR]
  exact hrel 0 v c rfl rfl
 ·have hp:packR l=.tup l:=by
   unfold packR
   split
   ·simp at hlen;omega
   ·rfl
  rw [hp]
  simp only [List.size_toArray,h1',dite_false]
  exact .tup _ _ (by simp;omega) (fun i v c hv hc=>hrel i v c (by simpa using hv) hc)
theorem leave_env (hX:XOk X) (hS:Sim X g tm hs a w) {nm:List (Nat×Nat)} {ds l:List (D α)} {H:Obs α} {ns:List Nat} (hpk:PackE X.C hs nm ds H l ns) :
  Sim (ctx0 X.P X.C X.glob) { g with rho:=rhoP nm g.rho,top:=fun _=>none } [] H act0 w∧PackTo g hs w nm ns (cxOf { g with rho:=rhoP nm g.rho,top:=fun _=>none } H w):=by
 have hsrc:∀c x b,look H c=some x→rhoP nm g.rho c=some b→∃o ob,(o,c)∈nm∧look hs o=some ob∧ob.fz=false∧g.rho o=some b:=by
  intro c x b hx hb
  obtain ⟨o,ob,n1,h1,h2,h3,h4⟩:=hpk.ex c x hx
  rw [rhoP_mem hpk.d2 h1] at hb
  exact ⟨o,ob,h1,h2,(packOb_kind h3).1,hb⟩
 have hP:PackTo g hs w nm ns (cxOf { g with rho:=rhoP nm g.rho,top:=fun _=>none } H w):=packTo_of hpk _ H (fun o c h=>rhoP_mem hpk.d2 h) (fun _ _ h=>h)
  (fun b hb=>by
   rcases hb with hb | ⟨c,x,hx,_,hr⟩
   ·exact .inl hb
   ·obtain ⟨o,ob,_,h2,h3,h4⟩:=hsrc c x b hx hr
    exact .inr ⟨o,ob,h2,h3,h4⟩)
  (fun o ob b ho hlo hr hb=>by
   rcases hb with hb | ⟨c,x,hx,_,hr'⟩
   ·exact hS.not0 hlo hr hb
   ·obtain ⟨o',ob',h1,h2,h3,h4⟩:=hsrc c x b hx hr'
    obtain rfl:=hS.inj o o' ob ob' b hlo h2 hr h4
    exact nmOf_none (hpk.ro o ho) h1)
 refine ⟨⟨rfl,fun t=>.bad _,rfl,fun c x hx=>?_,fun c c' x x' b hx hx' hr hr'=>?_,fun c x b hx hr=>?_,hS.below,hS.av0,hS.lav,fun _ _ h=>by simp at h,hS.glob⟩,hP⟩
 ·obtain ⟨o,ob,n1,h1,h2,h3,h4⟩:=hpk.ex c x hx
  show ObRel X.C _ (rhoP nm g.rho c) x
  rw [rhoP_mem hpk.d2 h1]
  exact packOb_sound hX hS hP (hS.obs o ob h2) h3 h4
 ·obtain ⟨o,ob,h1,h2,h3,h4⟩:=hsrc c x b hx hr
  obtain ⟨o',ob',h1',h2',h3',h4'⟩:=hsrc c' x' b hx' hr'
  obtain rfl:=hS.inj o o' ob ob' b h2 h2' h4 h4'
  exact uniq1 hpk.d1 h1 h1'
 ·obtain ⟨o,ob,h1,h2,h3,h4⟩:=hsrc c x b hx hr
  exact hS.own o ob b h2 h4
theorem fnM_sound (hX:XOk X) (hR:ROk X) {γ:Type} {RK:CK α γ} (hRK:CKOk X RK) {L:LK α} {f:FuncId} {fn:Func} {H:Obs α} {ds:List (D α)} {k:D α→Option γ} {c:γ} (hf:X.P.funcs[f]?=some fn) (hn:(fn.name=="runtime.NumGoroutine")=false)
  (hL:∀code,fn.body=some code→∀b∈loopsOf code,LoopOk X L b) (h:fnM X RK L fn H ds k=some c):∃os' d',k (.env os' d')=some c∧SoundM X.P X.C X.glob f H ds d' (decH os'):=by
 unfold fnM at h
 split at h
 case h_2=>simp at h
 rename_i cd hb
 obtain ⟨e,S',he,hgo⟩:=exec_sound hX hR hRK L c cd (hL cd hb) ⟨_,H⟩ _ h
 obtain ⟨d,hkd,hfd,hne⟩:∃d,k d=some c∧finM X fn H S'=some d∧∀id,e≠.exit id:=by
  cases e with
  | exit id=>simp at he
  | normal =>
   simp only at he
   split at he
   ·rename_i d hd;exact ⟨d,he,hd,by simp⟩
   ·simp at he
  | ret =>
   simp only at he
   split at he
   ·rename_i d hd;exact ⟨d,he,hd,by simp⟩
   ·simp at he
 unfold finM at hfd
 simp only at hfd
 split at hfd
 case h_2=>simp at hfd
 rename_i rs hrs
 generalize hnw:nmFrom 90000000 ((boxesOf S'.hs 64 (ptrsL X.own rs++((H.filter fun x=>Nat.blt x.1 100000).map fun x=>(x.1,x.1)).map (·.1)) []).filter fun o=>!(memNat (((H.filter fun x=>Nat.blt x.1 100000).map fun x=>(x.1,x.1)).map (·.1)) o))=nw at hfd
 generalize hnn:nw++nestsOf S'.hs inNest (((H.filter fun x=>Nat.blt x.1 100000).map fun x=>(x.1,x.1))++nw)=nn at hfd
 split at hfd
 case h_2=>simp at hfd
 rename_i H' l ns hpk'
 have hpk:=packE_spec hpk'
 cases htop:((H.filter fun x=>Nat.blt x.1 100000).map fun x=>(x.1,x.1)).all (topOk H) with
 | false=>rw [htop] at hfd;simp at hfd
 | true =>
 rw [htop] at hfd
 simp only [cond_true,Option.some.injEq] at hfd
 subst hfd
 refine ⟨_,_,hkd,?_⟩
 rw [dec_enc _ hpk.fz]
 intro g vs hnt hE hsz hrel
 have htops:∀c x,Nat.blt c 100000=true→look H c=some x→(c,c)∈((H.filter fun x=>Nat.blt x.1 100000).map fun x=>(x.1,x.1))∧Nat.blt c 50000=false∧∀f p,x≠.arr f p:=by
  intro c x hc hx
  have hm:(c,c)∈((H.filter fun x=>Nat.blt x.1 100000).map fun x=>(x.1,x.1)):=List.mem_map.2 ⟨(c,x),List.mem_filter.2 ⟨look_mem _ _ _ hx,hc⟩,rfl⟩
  have h1:=List.all_eq_true.1 htop _ hm
  unfold topOk at h1
  simp only [hx] at h1
  cases x with
  | arr f p=>simp at h1
  | box f cs=>simp only [Bool.and_eq_true,Bool.not_eq_true'] at h1;exact ⟨hm,h1.2,by simp⟩
  | map f p=>simp only [Bool.and_eq_true,Bool.not_eq_true'] at h1;exact ⟨hm,h1.2,by simp⟩
 have hn':¬ fn.name="runtime.NumGoroutine" := by simpa using hn
 refine .inl ⟨by simp [callFunc,hf,hn',hb],calls_of_wp hf hb ?_⟩
 generalize hg1:({ g with top:=fun c=>bif Nat.blt c 100000&&(look H c).isSome then g.rho c else none }:Gh)=g1
 have hcx:(cxOf g1 H g.w0:Cx α)=cxOf g H g.w0:=by subst hg1;rfl
 have hget:∀t,RG X.C (cxOf g1 H g.w0) (vs++Array.replicate (fn.ntmps - vs.size) undef) ((vs++Array.replicate (fn.ntmps - vs.size) undef).getD t undef) (getT (ds++List.replicate (fn.ntmps - ds.length) .bad) t):=by
  intro t
  rw [getT_get,Array.getD_eq_getD_getElem?,Array.getElem?_append,List.getElem?_append]
  by_cases ht:t < vs.size
  ·rw [if_pos ht,if_pos (by omega)]
   have h1:vs[t]?=some vs[t]:=by simp [ht]
   have h2:ds[t]?=some (ds[t]'(by omega)):=by simp
   rw [h1,h2]
   simp only [Option.getD_some]
   rw [hcx]
   exact RG.of (hrel t _ _ h1 h2)
  ·rw [if_neg ht,if_neg (by omega),List.getElem?_replicate]
   split<;>exact .bad _
 have hS:Sim X g1 (ds++List.replicate (fn.ntmps - ds.length) .bad) H { tmps:=vs++Array.replicate (fn.ntmps - vs.size) undef,defers:=[] } g.w0:=by
  refine ⟨by simp;omega,hget,rfl,fun o ob ho=>?_,?_,?_,?_,?_,?_,fun c b hc=>?_,?_⟩
  ·rw [hcx]
   have:=hE.obs o ob ho
   subst hg1
   exact this
  ·subst hg1;exact hE.inj
  ·subst hg1;exact hE.own
  ·subst hg1;exact hE.below
  ·subst hg1;exact hE.av0
  ·subst hg1;exact hE.lav
  ·subst hg1
   simp only at hc
   cases hcc:Nat.blt c 100000&&(look H c).isSome with
   | false=>rw [hcc] at hc;simp at hc
   | true =>
   rw [hcc] at hc
   simp only [cond_true] at hc
   simp only [Bool.and_eq_true,Option.isSome_iff_exists] at hcc
   obtain ⟨h1,x,hx⟩:=hcc
   obtain ⟨_,h3,h4⟩:=htops c x h1 hx
   refine ⟨h3,h1,fun ob ho=>⟨hc,?_⟩⟩
   rw [hx] at ho
   simp only [Option.some.injEq] at ho
   subst ho
   exact h4
  ·subst hg1;exact hE.glob
 have hK:KeyIn (ds++List.replicate (fn.ntmps - ds.length) (.bad:D α)) (fun _=>False):=by
  intro t ks b e ht
  rw [getT_get,List.getElem?_append] at ht
  by_cases h':t < ds.length
  ·rw [if_pos h'] at ht
   have h1:vs[t]?=some (vs[t]'(by omega)):=by simp
   have h2:ds[t]?=some ds[t]:=by simp [h']
   rw [h2] at ht
   simp only [Option.getD_some] at ht
   have:=hrel t _ _ h1 h2
   rw [ht] at this
   exact this.noGd.elim
  ·rw [if_neg h',List.getElem?_replicate] at ht
   split at ht<;>simp at ht
 refine hgo g1 _ g.w0 hS hK _ fun rho' a' w' hS' hK'=>?_
 have hfin:a'.defers=[]∧∃v,(results fn a'.tmps).run X.P w'=.ok v w'∧∃v',Ending.returned v=.returned v'∧∃rho2,Sim (ctx0 X.P X.C X.glob) { g with rho:=rho2 } [] H' act0 w'∧RD X.C (cxOf { g with rho:=rho2 } H' w') v' (packR l) ∧
   ∀c ob,Nat.blt c 100000=true→look H c=some ob→rho2 c=g.rho c∧∃ob',look H' c=some ob'∧∀f p,ob'≠.arr f p:=by
  obtain ⟨hL1,hP⟩:=leave_env hX hS' hpk
  obtain ⟨ms,hms,hmn⟩:=hpk.args
  obtain ⟨hlen,hget⟩:=packAll_sound hX hS' hP rs l ms hms hmn
  obtain ⟨v,h1,h2⟩:=results_of hX hS' fn rs hrs hlen hget
  refine ⟨hS'.dfr,v,h1,v,rfl,rhoP (((H.filter fun x=>Nat.blt x.1 100000).map fun x=>(x.1,x.1))++nn) rho',?_,?_,fun c ob hc ho=>?_⟩
  ·subst hg1
   exact ⟨hL1.size,hL1.tm,hL1.dfr,hL1.obs,hL1.inj,hL1.own,hL1.below,hL1.av0,hL1.lav,fun c b hc=>by rw [hnt c] at hc;simp at hc,hL1.glob⟩
  ·subst hg1;exact h2
  ·obtain ⟨hm,h50,hna⟩:=htops c ob hc ho
   obtain ⟨b,hb'⟩:∃b,g.rho c=some b:=by
    have:=hE.obs c ob ho
    cases ob with
    | arr f p=>exact absurd rfl (hna f p)
    | box f cs=>obtain ⟨b,_,_,h,_⟩:=this;exact ⟨b,h⟩
    | map f p=>obtain ⟨b,_,_,h,_⟩:=this;exact ⟨b,h⟩
   have hm':=List.mem_append_left nn hm
   obtain ⟨ob1,x,n1,k1,k2,k3,_⟩:=hpk.im c c hm'
   obtain ⟨_,_,t3⟩:=hS'.top c b (by subst hg1;simp only [hc,ho,Option.isSome_some,Bool.and_self,cond_true];exact hb')
   obtain ⟨r1,r2⟩:=t3 ob1 k1
   obtain ⟨-,-,s1⟩:=packOb_kind k3
   exact ⟨(rhoP_mem hpk.d2 hm').trans (r1.trans hb'.symm),x,k2,bm_kind s1 r2⟩
 cases e with
 | normal=>exact hfin
 | exit id=>exact absurd rfl (hne id)
 | ret=>exact hfin
end
end Go.Eng
