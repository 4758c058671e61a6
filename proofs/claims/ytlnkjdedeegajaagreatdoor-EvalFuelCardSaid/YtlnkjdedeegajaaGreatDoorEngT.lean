/-
  THE ENGINE, PART T: CODE, AND A FUNCTION's BODY.
-/
import Derived.Test.YtlnkjdedeegajaaGreatDoorEngS3
import Derived.LoopN
namespace Go.Eng
open Go.RowKit
variable {α:Type}
theorem countP_lt {β:Type} (p q:β→Bool) (hpq:∀x,q x=true→p x=true):∀(l:List β) (x:β),x∈l→p x=true→q x=false→l.countP q < l.countP p
  | [],x,h,_,_=>by simp at h
  | y::r,x,h,hp,hq=>by
    have hle:r.countP q≤r.countP p:=List.countP_mono_left fun z _ hz=>hpq z hz
    rcases List.mem_cons.1 h with rfl | h
    · simp only [List.countP_cons,hp,hq]
      simp
      omega
    · have:=countP_lt p q hpq r x h hp hq
      simp only [List.countP_cons]
      cases hy:q y with
      | false=>simp;omega
      | true=>simp [hpq y hy];omega
theorem countP_zero {β:Type} (p:β→Bool):∀(l:List β),l.countP p=0→∀x∈l,p x=false:=by
  intro l h x hx
  cases hp:p x with
  | false=>rfl
  | true=>exact absurd (List.countP_pos_iff.2 ⟨x,hx,hp⟩) (by omega)
def unlisted (n:Nat) (listed:Array Bool):Nat:=(List.range n).countP fun i=>!listed.getD i false
theorem getD_set {l:Array Bool} {i j:Nat} (hi:i < l.size):(l.setIfInBounds i true).getD j false=true↔l.getD j false=true∨j=i:=by
  simp only [Array.getD_eq_getD_getElem?,Array.getElem?_setIfInBounds]
  by_cases h:i=j
  · subst h;simp [hi]
  · simp [h]
    intro h';exact absurd h'.symm h
section
variable {X:Ctx α} {g:Gh}
theorem anyorder (hX:XOk X) (hR:ROk X) {ops:Array Oper} (hsl:SlotsOK ops) {T:Nat→List (D α)} {H:Nat→Obs α}
    (hback:∀(j:Nat) o,ops[j]?=some o→∀e∈o.after,Region.binds .any e=true→e.on < j)
    (Inv:(Nat→Prop)→List (D α)→Obs α→Prop)
    (hstep:∀(L:Nat→Prop) tm hs,Inv L tm hs→(∀j,L j→∀i,Pre ops j i→L i)→(∀j,L j→j < ops.size)→∀(i:Nat) o,ops[i]?=some o→¬ L i→(∀j,Pre ops i j→L j) →
      ∃W tm1 hs1,AStep X ops i o tm hs tm1 hs1 W∧Inv (fun j=>L j∨j=i) tm1 hs1∧∀j want,o.guard=some (j,want)→j < i→(slotOf ops j).isSome=true→L j)
    (hfin:∀(L:Nat→Prop) tm hs,Inv L tm hs→(∀i,i < ops.size→L i)→tm=T ops.size∧∀k,look hs k=look (H ops.size) k) {Q:Exit→Act→World→Prop}
    (hQ:∀rho' a' w',Sim X { g with rho:=rho' } (T ops.size) (H ops.size) a' w'→KeyIn (T ops.size) (KOf ops fun _=>True)→Q .normal a' w') :
    ∀(fuel:Nat) (listed:Array Bool) (tm:List (D α)) (hs:Obs α) (rho:Nat→Option Nat) (a:Act) (w:World),listed.size=ops.size →
      Inv (fun j=>listed.getD j false=true) tm hs→(∀j,listed.getD j false=true→∀i,Pre ops j i→listed.getD i false=true) →
      KeyIn tm (KOf ops fun j=>listed.getD j false=true)→Sim X { g with rho:=rho } tm hs a w→unlisted ops.size listed≤fuel→wpAny X.P .any ops Q fuel listed a w:=by
  intro fuel
  have hend:∀(listed:Array Bool) (tm:List (D α)) (hs:Obs α) (rho:Nat→Option Nat) (a:Act) (w:World),Inv (fun j=>listed.getD j false=true) tm hs →
      KeyIn tm (KOf ops fun j=>listed.getD j false=true)→Sim X { g with rho:=rho } tm hs a w→(∀i,i < ops.size→listed.getD i false=true)→Q .normal a w:=by
    intro listed tm hs rho a w hI hK hS hall
    obtain ⟨htm,hhs⟩:=hfin _ _ _ hI hall
    subst htm
    exact hQ rho a w (hS.eqv hhs) (hK.mono fun s ⟨h1,j,_,h3⟩=>⟨h1,j,trivial,h3⟩)
  have hready:∀(listed:Array Bool),listed.size=ops.size→∀i,i∈Region.ready .any ops listed↔i < ops.size∧¬ listed.getD i false=true∧∀o,ops[i]?=some o→∀e∈o.after,Region.binds .any e=true→listed.getD e.on false=true:=by
    intro listed hsz i
    simp only [Region.ready,List.mem_filter,List.mem_range,Bool.and_eq_true,Bool.not_eq_true']
    refine and_congr_right fun hi=>?_
    have ho:ops[i]?=some ops[i]:=by simp [hi]
    rw [ho]
    simp only [Option.map_some,Option.getD_some,Array.all_eq_true',Bool.or_eq_true,Bool.not_eq_true',Option.some.injEq,forall_eq']
    refine and_congr ?_ ?_
    · simp only [Array.getD_eq_getD_getElem?,show listed[i]?=some (listed[i]'(by omega)) by simp [hsz,hi],Option.getD_some,Bool.not_eq_true]
    · exact ⟨fun h e he hb=>(h e he).resolve_left (by rw [hb];simp),fun h e he=>by
        cases hb:Region.binds .any e with
        | false=>exact .inl rfl
        | true=>exact .inr (h e he hb)⟩
  have hnil:∀(listed:Array Bool),listed.size=ops.size→Region.ready .any ops listed=[]→∀i,i < ops.size→listed.getD i false=true:=by
    intro listed hsz hr i
    induction i using Nat.strongRecOn with
    | _ i ih =>
      intro hi
      refine Classical.byContradiction fun hn=>?_
      have:i∈Region.ready .any ops listed:=(hready listed hsz i).2 ⟨hi,hn,fun o ho e he hb=>ih e.on (hback i o ho e he hb) (by have:=hback i o ho e he hb;omega)⟩
      rw [hr] at this
      simp at this
  have hlt:∀(listed:Array Bool),listed.size=ops.size→∀j,listed.getD j false=true→j < ops.size:=by
    intro listed hsz j h
    rcases Nat.lt_or_ge j ops.size with h' | h'
    · exact h'
    · simp [Array.getD_eq_getD_getElem?,Array.getElem?_eq_none (show listed.size≤j by omega)] at h
  induction fuel with
  | zero =>
    intro listed tm hs rho a w hsz hI hdown hK hS hf
    have hall:∀i,i < ops.size→listed.getD i false=true:=by
      intro i hi
      have:=countP_zero _ _ (show unlisted ops.size listed=0 by omega) i (by simpa using hi)
      simpa using this
    refine ⟨?_,hend listed tm hs rho a w hI hK hS hall⟩
    refine List.eq_nil_iff_forall_not_mem.2 fun i hi=>?_
    obtain ⟨h1,h2,_⟩:=(hready listed hsz i).1 hi
    exact h2 (hall i h1)
  | succ fuel ih =>
    intro listed tm hs rho a w hsz hI hdown hK hS hf
    refine ⟨fun hr=>hend listed tm hs rho a w hI hK hS (hnil listed hsz hr),fun i hi=>?_⟩
    obtain ⟨h1,h2,h3⟩:=(hready listed hsz i).1 hi
    have ho:ops[i]?=some ops[i]:=by simp [h1]
    have hpre:∀j,Pre ops i j→listed.getD j false=true:=by
      intro j hj
      obtain ⟨e,he,hb,h⟩:=pre_spec ho hj
      have hl:=h3 _ ho e he hb
      rcases h with rfl | h
      · exact hl
      · exact hdown _ hl j h
    obtain ⟨W,tm1,hs1,st,hI1,hg⟩:=hstep _ _ _ hI hdown (hlt listed hsz) i _ ho h2 hpre
    have hset:∀j,(listed.setIfInBounds i true).getD j false=true↔listed.getD j false=true∨j=i:=fun j=>getD_set (by omega)
    refine step_region' hX hR hS hsl (L:=fun j=>listed.getD j false=true) (L':=fun j=>(listed.setIfInBounds i true).getD j false=true) ho st hK h2 (fun j h=>(hset j).2 (.inl h)) hg fun rho' a' w' hS' hK'=>?_
    refine ih _ tm1 hs1 rho' a' w' (by simpa using hsz) ?_ ?_ hK' hS' ?_
    · have:(fun j=>(listed.setIfInBounds i true).getD j false=true)=fun j=>listed.getD j false=true∨j=i:=by
        funext j;exact propext (hset j)
      rw [this];exact hI1
    · intro j hj k hk
      rw [hset] at hj ⊢
      rcases hj with hj | rfl
      · exact .inl (hdown j hj k hk)
      · exact .inl (hpre k hk)
    · have:unlisted ops.size (listed.setIfInBounds i true) < unlisted ops.size listed:=by
        refine countP_lt _ _ (fun x hx=>?_) _ i (by simpa using h1) (by simpa using h2) ?_
        · simp only [Bool.not_eq_true'] at hx ⊢
          cases hl:listed.getD x false with
          | false=>rfl
          | true=>rw [(hset x).2 (.inl hl)] at hx;simp at hx
        · simp only [Bool.not_eq_false']
          exact (hset i).2 (.inr rfl)
      omega
def toExit:Ex→Exit
  | .normal=>.normal
  | .exit id=>.exit id
  | .ret=>.ret
theorem keyIn_ungd (tm:List (D α)) (K:Nat→Prop):KeyIn (tm.map ungd) K:=by
  intro t ks b e h
  rw [getT_map _ (by rfl)] at h
  cases hd:getT tm t<;>rw [hd] at h<;>simp [ungd] at h
theorem Sim.ungd {tm:List (D α)} {hs:Obs α} {a:Act} {w:World} (hS:Sim X g tm hs a w):Sim X g (tm.map ungd) hs a w:=by
  refine ⟨by simpa using hS.size,fun t=>?_,hS.dfr,hS.obs,hS.inj,hS.own,hS.below,hS.av0,hS.lav,hS.top,hS.glob⟩
  rw [getT_map _ (by rfl)]
  have:=hS.tm t
  cases hd:getT tm t<;>rw [hd] at this
  case gd=>exact .bad _
  all_goals exact this
def Goes (X:Ctx α) (code:Code) (S:St α) (e:Ex) (S':St α):Prop :=
  ∀(g:Gh) (a:Act) (w:World),Sim X g S.tm S.hs a w→KeyIn S.tm (fun _=>False)→∀Q:Exit→Act→World→Prop,
    (∀rho' a' w',Sim X { g with rho:=rho' } S'.tm S'.hs a' w'→KeyIn S'.tm (fun _=>False)→Q (toExit e) a' w')→code.wp X.P Q a w
theorem region_sound (hX:XOk X) (hR:ROk X) {γ:Type} {RK:CK α γ} (hRK:CKOk X RK) (L:LK α) (id:Nat) (ops:Array Oper) (draw:Bool) (S:St α) (k:Ex→St α→Option γ) (c:γ) (h:exec X RK L (.region id ops draw) S k=some c) :
    ∃e S',k e S'=some c∧Goes X (.region id ops draw) S e S':=by
  simp only [exec] at h
  obtain ⟨h1,h2⟩:=chk_eq h
  obtain ⟨hsl,hdis⟩:=slots_of h1
  obtain ⟨T,H,W,wsN,lgN,hT,hH,hk,hst,hW,_,_,hlg⟩:=trace X RK hRK ops _ c _ 0 _ _ _ _ h2
  simp only [Nat.zero_add,List.length_nil] at hk hst hW hlg
  obtain ⟨h3,h4⟩:=chk_eq hk
  have hst':∀(i:Nat) o,ops[i]?=some o→AStep X ops i o (T i) (H i) (T (i+1)) (H (i+1)) (W i):=fun i o ho=>hst i o (by simpa using ho)
  simp only [Array.length_toList] at h4 hW hlg
  refine ⟨_,_,h4,fun g a w hS hK Q hQ=>?_⟩
  have hfin:∀rho' a' w',Sim X { g with rho:=rho' } (T ops.size) (H ops.size) a' w'→KeyIn (T ops.size) (KOf ops fun _=>True)→Q .normal a' w':=by
    intro rho' a' w' hS' hK'
    refine hQ rho' a' w' ?_ ?_
    · show Sim X _ (bif ops.all (fun o=>o.guard.isNone) then T ops.size else (T ops.size).map Eng.ungd) (H ops.size) a' w'
      cases hg:ops.all fun o=>o.guard.isNone with
      | true=>exact hS'
      | false=>exact hS'.ungd
    · show KeyIn (bif ops.all (fun o=>o.guard.isNone) then T ops.size else (T ops.size).map Eng.ungd) _
      cases hg:ops.all fun o=>o.guard.isNone with
      | true =>
        refine hK'.mono fun s ⟨hn,_⟩=>hn fun o ho=>?_
        have:=(Array.all_eq_true'.1 hg) o ho
        simpa using this
      | false=>exact keyIn_ungd _ _
  cases draw with
  | false =>
    refine wp_region ?_
    rw [List.range_eq_range']
    exact lexical hX hR hsl hst' hfin ops.size 0 g.rho a w (by omega) (by rw [hT,hH];exact hS) (by rw [hT];exact hK.mono fun _ h=>h.elim)
  | true =>
    simp only [Bool.not_true,Bool.false_or,Bool.or_eq_true] at h3
    refine wp_region_any hX.mixed ?_
    have hL0:∀j,(Array.replicate ops.size false).getD j false=true→False:=by
      intro j h
      simp only [Array.getD_eq_getD_getElem?,Array.getElem?_replicate] at h
      split at h<;>simp at h
    have hcnt:unlisted ops.size (Array.replicate ops.size false)≤ops.size:=by
      have:=List.countP_le_length (p:=fun i=>!(Array.replicate ops.size false).getD i false) (l:=List.range ops.size)
      simpa [unlisted] using this
    have hgrow:Sim X { g with rho:=g.rho } S.tm S.hs a { w with drawn:=w.drawn+1 }:=hS.grow hX.pay ⟨rfl,rfl,rfl,Nat.le_refl _,fun _ _=>rfl,fun _=>Nat.le_succ _⟩
    rcases h3 with (h3 | h3) | h3 | h3
    · refine anyorder hX hR hsl (T:=T) (H:=H) (drawOK_spec h3).1 (fun L tm hs=>∃b,AInv ops T H W L b tm hs) (fun L tm hs ⟨b,hI⟩ hdown _ i o ho hiL hpre=>?_) (fun L tm hs ⟨b,hI⟩ hall=>by obtain ⟨q1,q2⟩:=hI.fin hst' (hdis rfl) hall;exact ⟨q1,fun k=>by rw [q2]⟩) hfin
        ops.size _ S.tm S.hs g.rho a _ (by simp) ?_ (fun j h=>(hL0 j h).elim) (hK.mono fun _ h=>h.elim) hgrow hcnt
      · obtain ⟨b',tm1,hs1,e1,e2,e3⟩:=AInv.step hst' (hdis rfl) hW h3 hI hdown ho hiL hpre
        exact ⟨_,tm1,hs1,e1,⟨b',e2⟩,e3⟩
      · exact ⟨0,Nat.zero_le _,fun i hi=>by omega,fun i _ h=>(hL0 i h).elim,hH.symm,by rw [hT],fun i t _ h=>(hL0 i h).elim,fun t _=>by rw [hT]⟩
    · refine anyorder hX hR hsl (T:=T) (H:=H) (drawB_spec h3).1 (fun L tm hs=>∃b,BInv ops T H W L b tm hs) (fun L tm hs ⟨b,hI⟩ hdown hLn i o ho hiL hpre=>?_) (fun L tm hs ⟨b,hI⟩ hall=>by obtain ⟨q1,q2⟩:=hI.fin hst' (hdis rfl) hW h3 hall;exact ⟨q1,fun k=>by rw [q2]⟩) hfin
        ops.size _ S.tm S.hs g.rho a _ (by simp) ?_ (fun j h=>(hL0 j h).elim) (hK.mono fun _ h=>h.elim) hgrow hcnt
      · obtain ⟨b',tm1,hs1,e1,e2,e3⟩:=BInv.step hst' (hdis rfl) hW h3 hI hdown hLn ho hiL hpre
        exact ⟨_,tm1,hs1,e1,⟨b',e2⟩,e3⟩
      · exact ⟨0,Nat.zero_le _,fun i o hi=>by omega,fun i _ h=>(hL0 i h).elim,hH.symm,by rw [hT],fun i t h=>(hL0 i h).elim,fun t _=>by rw [hT]⟩
    · rw [←hT,←hH] at h3
      have hC:=drawC_spec (T:=T) (H:=H) (fun i o ho=>⟨_,hst' i o ho⟩) hlg h3
      refine anyorder hX hR hsl (T:=T) (H:=H) hC.back (fun L tm hs=>CInv X (makers ops.toList) ops T H L tm hs) (fun L tm hs hI hdown hLn i o ho hiL hpre=>?_) (fun L tm hs hI hall=>hI.fin hC (hdis rfl) hall) hfin
        ops.size _ S.tm S.hs g.rho a _ (by simp) ?_ (fun j h=>(hL0 j h).elim) (hK.mono fun _ h=>h.elim) hgrow hcnt
      · obtain ⟨W,tm1,hs1,e1,e2⟩:=CInv.step hC (hdis rfl) hI hdown hLn ho hiL hpre
        exact ⟨W,tm1,hs1,e1,e2,fun j want hg=>by rw [hC.guard i o ho] at hg;simp at hg⟩
      · rw [←hT,←hH]
        exact ⟨rfl,hC.okt,hC.okh,fun i t h=>(hL0 i h).elim,fun t _=>rfl,fun k=>⟨0,Nat.zero_le _,fun i oi _ _=>⟨fun h=>(hL0 i h).elim,fun h=>by omega⟩,rfl⟩⟩
    · rw [←hT,←hH] at h3
      obtain ⟨K,hb,hC⟩:=drawW_spec (T:=T) (H:=H) (W:=W) hst' hW hlg h3
      refine anyorder hX hR hsl (T:=T) (H:=H) hC.back (fun L tm hs=>∃b,WInv ops W hb T H L b tm hs) (fun L tm hs ⟨b,hI⟩ hdown hLn i o ho hiL hpre=>?_) (fun L tm hs ⟨b,hI⟩ hall=>hI.fin hC (hdis rfl) hall) hfin
        ops.size _ S.tm S.hs g.rho a _ (by simp) ?_ (fun j h=>(hL0 j h).elim) (hK.mono fun _ h=>h.elim) hgrow hcnt
      · obtain ⟨W',b',tm1,hs1,e1,e2⟩:=WInv.step hC (hdis rfl) hI hdown hLn ho hiL hpre
        exact ⟨W',tm1,hs1,e1,⟨b',e2⟩,fun j want hg=>by rw [hC.guard i o ho] at hg;simp at hg⟩
      · rw [←hT,←hH]
        exact ⟨0,Nat.zero_le _,fun i hi=>by omega,fun i _ h=>(hL0 i h).elim,rfl,rfl,fun i t h=>(hL0 i h).elim,fun i t h=>(hL0 i h).elim,fun t _=>rfl⟩
def LoopOk (X:Ctx α) (L:LK α) (body:Code):Prop:=∀S b r,L (firstId body) S=some (b,r)→b=true→Goes X (.loop body) S (pickR r).1 (pickR r).2
theorem runR_eq {γ:Type} (k:Ex→St α→Option γ):∀r:LR α,runR r k=k (pickR r).1 (pickR r).2
  | .leaf e S=>rfl
  | .ite c x y=>by
    cases c with
    | true=>exact runR_eq k x
    | false=>exact runR_eq k y
theorem exec_sound (hX:XOk X) (hR:ROk X) {γ:Type} {RK:CK α γ} (hRK:CKOk X RK) (L:LK α) (c:γ):∀(code:Code) (_hL:∀b∈loopsOf code,LoopOk X L b) (S:St α) (k:Ex→St α→Option γ),exec X RK L code S k=some c →
    ∃e S',k e S'=some c∧Goes X code S e S'
  | .skip,hL,S,k,h=>⟨.normal,S,h,fun g a w hS hK Q hQ=>wp_skip (hQ g.rho a w hS hK)⟩
  | .region id ops draw,hL,S,k,h=>region_sound hX hR hRK L id ops draw S k c h
  | .seq x y,hL,S,k,h=>by
    obtain ⟨e,S1,h1,hg1⟩:=exec_sound hX hR hRK L c x (fun b hb=>hL b (by simp [loopsOf,hb])) S _ h
    cases e with
    | normal =>
      obtain ⟨e2,S2,h2,hg2⟩:=exec_sound hX hR hRK L c y (fun b hb=>hL b (by simp [loopsOf,hb])) S1 k h1
      exact ⟨e2,S2,h2,fun g a w hS hK Q hQ=>wp_seq (hg1 g a w hS hK _ fun rho' a' w' hS' hK'=>hg2 { g with rho:=rho' } a' w' hS' hK' Q fun rho'' a'' w''=>hQ rho'' a'' w'')⟩
    | exit id=>exact ⟨_,S1,h1,fun g a w hS hK Q hQ=>wp_seq (hg1 g a w hS hK _ hQ)⟩
    | ret=>exact ⟨_,S1,h1,fun g a w hS hK Q hQ=>wp_seq (hg1 g a w hS hK _ hQ)⟩
  | .cond x t f,hL,S,k,h=>by
    simp only [exec] at h
    split at h
    · rename_i b hb
      have hv:∀(g:Gh) (a:Act) (w:World),Sim X g S.tm S.hs a w→a.eval x=.bool b:=by
        intro g a w hS
        have hv:=evK_sound hX hS (ks:=[]) (fun k hk=>by simp at hk) x
        rw [hb] at hv
        exact lit_eq hv
      cases b with
      | true =>
        obtain ⟨e,S1,h1,hg1⟩:=exec_sound hX hR hRK L c t (fun b hb=>hL b (by simp [loopsOf,hb])) S k h
        exact ⟨e,S1,h1,fun g a w hS hK Q hQ=>wp_cond (hv g a w hS) (hg1 g a w hS hK Q hQ)⟩
      | false =>
        obtain ⟨e,S1,h1,hg1⟩:=exec_sound hX hR hRK L c f (fun b hb=>hL b (by simp [loopsOf,hb])) S k h
        exact ⟨e,S1,h1,fun g a w hS hK Q hQ=>wp_cond (hv g a w hS) (hg1 g a w hS hK Q hQ)⟩
    · simp at h
  | .block id body,hL,S,k,h=>by
    obtain ⟨e,S1,h1,hg1⟩:=exec_sound hX hR hRK L c body (fun b hb=>hL b (by simp [loopsOf,hb])) S _ h
    cases e with
    | normal=>exact ⟨_,S1,h1,fun g a w hS hK Q hQ=>wp_block (hg1 g a w hS hK _ hQ)⟩
    | exit id' =>
      simp only at h1
      cases hb:Nat.beq id' id with
      | true =>
        rw [hb] at h1
        refine ⟨.normal,S1,h1,fun g a w hS hK Q hQ=>wp_block (hg1 g a w hS hK _ fun rho' a' w' hS' hK'=>?_)⟩
        simp only [toExit,Exit.inBlock]
        rw [if_pos (Nat.eq_of_beq_eq_true hb)]
        exact hQ rho' a' w' hS' hK'
      | false =>
        rw [hb] at h1
        refine ⟨.exit id',S1,h1,fun g a w hS hK Q hQ=>wp_block (hg1 g a w hS hK _ fun rho' a' w' hS' hK'=>?_)⟩
        simp only [toExit,Exit.inBlock]
        rw [if_neg (fun h=>by rw [h] at hb;simp at hb)]
        exact hQ rho' a' w' hS' hK'
    | ret=>exact ⟨_,S1,h1,fun g a w hS hK Q hQ=>wp_block (hg1 g a w hS hK _ hQ)⟩
  | .loop body,hL,S,k,h=>by
    simp only [exec] at h
    split at h
    · rename_i b r hl
      obtain ⟨h1,h2⟩:=chk_eq h
      rw [runR_eq] at h2
      exact ⟨_,_,h2,hL body (by simp [loopsOf]) S b r hl h1⟩
    have key:∀(n:Nat) (S:St α),loopD (fun S k=>exec X RK L body S k) n S k=some c→∃e S',k e S'=some c∧∀(g:Gh) (a:Act) (w:World),Sim X g S.tm S.hs a w→KeyIn S.tm (fun _=>False)→∀Q:Exit→Act→World→Prop,
        (∀rho' a' w',Sim X { g with rho:=rho' } S'.tm S'.hs a' w'→KeyIn S'.tm (fun _=>False)→Q (toExit e) a' w')→Code.rounds X.P body Q n a w:=by
      intro n
      induction n with
      | zero=>intro S h;simp [loopD] at h
      | succ n ih =>
        intro S h
        simp only [loopD] at h
        obtain ⟨e,S1,h1,hg1⟩:=exec_sound hX hR hRK L c body (fun b hb=>hL b (by simp [loopsOf,hb])) S _ h
        cases e with
        | normal =>
          obtain ⟨e2,S2,h2,hg2⟩:=ih S1 h1
          exact ⟨e2,S2,h2,fun g a w hS hK Q hQ=>hg1 g a w hS hK _ fun rho' a' w' hS' hK'=>hg2 { g with rho:=rho' } a' w' hS' hK' Q fun rho'' a'' w''=>hQ rho'' a'' w''⟩
        | exit id=>exact ⟨_,S1,h1,fun g a w hS hK Q hQ=>hg1 g a w hS hK _ hQ⟩
        | ret=>exact ⟨_,S1,h1,fun g a w hS hK Q hQ=>hg1 g a w hS hK _ hQ⟩
    obtain ⟨e,S1,h1,hg1⟩:=key X.N S h
    exact ⟨e,S1,h1,fun g a w hS hK Q hQ=>wp_loop_rounds X.N (hg1 g a w hS hK Q hQ)⟩
  | .exit id,hL,S,k,h=>⟨.exit id,S,h,fun g a w hS hK Q hQ=>wp_exit (hQ g.rho a w hS hK)⟩
  | .ret,hL,S,k,h=>⟨.ret,S,h,fun g a w hS hK Q hQ=>wp_ret (hQ g.rho a w hS hK)⟩
  | .rangeFunc ..,hL,S,k,h=>by simp [exec] at h
  | .scope ..,hL,S,k,h=>by simp [exec] at h
  | .label ..,hL,S,k,h=>by simp [exec] at h
  | .goto ..,hL,S,k,h=>by simp [exec] at h
  | .refuse ..,hL,S,k,h=>by simp [exec] at h
def maskT (keep:Nat→Bool):Nat→List (D α)→List (D α)
  | _,[]=>[]
  | i,d::r=>(bif keep i then d else .bad)::maskT keep (i+1) r
def maskS (keep:Nat→Bool) (S:St α):St α:=⟨maskT keep 0 S.tm,S.hs⟩
theorem maskT_length (keep:Nat→Bool):∀(l:List (D α)) (i:Nat),(maskT keep i l).length=l.length
  | [],_=>rfl
  | d::r,i=>by simp [maskT,maskT_length keep r (i+1)]
theorem maskT_get (keep:Nat→Bool):∀(l:List (D α)) (i t:Nat),getT (maskT keep i l) t=if keep (i+t)=true then getT l t else .bad
  | [],i,t=>by simp [maskT,getT]
  | d::r,i,0=>by
    simp only [maskT,getT,Nat.add_zero]
    cases keep i<;>simp
  | d::r,i,t+1=>by
    simp only [maskT,getT]
    rw [maskT_get keep r (i+1) t,show i+1+t=i+(t+1) by omega]
theorem Sim.mask {S:St α} {a:Act} {w:World} (keep:Nat→Bool) (hS:Sim X g S.tm S.hs a w):Sim X g (maskS keep S).tm (maskS keep S).hs a w:=by
  refine ⟨by simpa [maskS,maskT_length] using hS.size,fun t=>?_,hS.dfr,hS.obs,hS.inj,hS.own,hS.below,hS.av0,hS.lav,hS.top,hS.glob⟩
  simp only [maskS,maskT_get]
  split
  · exact hS.tm t
  · exact .bad _
theorem KeyIn.mask {S:St α} {K:Nat→Prop} (keep:Nat→Bool) (h:KeyIn S.tm K):KeyIn (maskS keep S).tm K:=by
  intro t ks b e he
  simp only [maskS,maskT_get] at he
  split at he
  · exact h t ks b e he
  · simp at he
theorem Goes.pre {code:Code} {S S':St α} {e:Ex} (keep:Nat→Bool) (h:Goes X code (maskS keep S) e S'):Goes X code S e S' :=
  fun g a w hS hK Q hQ=>h g a w (hS.mask keep) (hK.mask keep) Q hQ
theorem Goes.post {code:Code} {S S':St α} {e:Ex} (keep:Nat→Bool) (h:Goes X code S e S'):Goes X code S e (maskS keep S') :=
  fun g a w hS hK Q hQ=>h g a w hS hK Q fun rho' a' w' hS' hK'=>hQ rho' a' w' (hS'.mask keep) (hK'.mask keep)
def normS (keep:Nat→Bool) (ns:Nat→Bool) (S:St α):St α:=⟨maskT keep 0 (S.tm.map (kill ns)),killH ns (dropA ns S.hs)⟩
theorem Sim.forget (hX:XOk X) {S:St α} {a:Act} {w:World} (ns:Nat→Bool) (hS:Sim X g S.tm S.hs a w):Sim X g (S.tm.map (kill ns)) (killH ns (dropA ns S.hs)) a w:=by
  have hl:∀k,look (killH ns (dropA ns S.hs)) k=if ns k=true then none else (look S.hs k).map (killOb ns):=by
    intro k
    rw [look_killH,look_dropA]
    split<;>rfl
  have hk:KeepH ns S.hs (killH ns (dropA ns S.hs)) g.rho g.rho:=fun k hn=>⟨by rw [hl,if_neg (by rw [hn];simp)],rfl⟩
  have hno:∀k ob,ns k=true→look (killH ns (dropA ns S.hs)) k=some ob→False:=by
    intro k ob hn h
    rw [hl,if_pos hn] at h
    simp at h
  exact sim_step hX hS hk (toL (BelowD.refl _ _)) (cxLe_step hk (fun _ _ _ h=>h) (fun k ob b hn h=>(hno k ob hn h).elim) (fun b cells T fz h=>⟨cells,T,fz,h,rfl⟩)) (fun _ _ _ _ _ _=>rfl)
    (fun k ob hn h=>(hno k ob hn h).elim) (fun k ob b hn h=>(hno k ob hn h).elim) (fun k k' ob ob' b hn h=>(hno k ob hn h).elim) (fun k ob hn h=>(hno k ob hn h).elim)
theorem Goes.norm (hX:XOk X) {code:Code} {S S':St α} {e:Ex} (keep ns:Nat→Bool) (h:Goes X code S e S'):Goes X code S e (normS keep ns S') :=
  fun g a w hS hK Q hQ=>h g a w hS hK Q fun rho' a' w' hS' hK'=>hQ rho' a' w' (Sim.mask (S:=⟨_,_⟩) keep (hS'.forget hX ns)) (KeyIn.mask (S:=⟨S'.tm.map (kill ns),killH ns (dropA ns S'.hs)⟩) keep (hK'.kill ns))
theorem loop_goes {body:Code} {e:Ex} {S':St α} (he:e≠.normal):∀(n:Nat) (Sf:Nat→St α),(∀i,i < n→Goes X body (Sf i) .normal (Sf (i+1)))→Goes X body (Sf n) e S'→Goes X (.loop body) (Sf 0) e S':=by
  have key:∀(n:Nat) (Sf:Nat→St α),(∀i,i < n→Goes X body (Sf i) .normal (Sf (i+1)))→Goes X body (Sf n) e S' →
      ∀(g:Gh) (a:Act) (w:World),Sim X g (Sf 0).tm (Sf 0).hs a w→KeyIn (Sf 0).tm (fun _=>False)→∀Q:Exit→Act→World→Prop,
        (∀rho' a' w',Sim X { g with rho:=rho' } S'.tm S'.hs a' w'→KeyIn S'.tm (fun _=>False)→Q (toExit e) a' w')→Code.rounds X.P body Q (n+1) a w:=by
    intro n
    induction n with
    | zero =>
      intro Sf _ hl g a w hS hK Q hQ
      refine hl g a w hS hK _ ?_
      cases e with
      | normal=>exact absurd rfl he
      | exit id=>exact hQ
      | ret=>exact hQ
    | succ n ih =>
      intro Sf hs hl g a w hS hK Q hQ
      exact hs 0 (by omega) g a w hS hK _ fun rho' a' w' hS' hK'=>ih (fun i=>Sf (i+1)) (fun i hi=>hs (i+1) (by omega)) hl { g with rho:=rho' } a' w' hS' hK' Q fun rho'' a'' w''=>hQ rho'' a'' w''
  intro n Sf hs hl g a w hS hK Q hQ
  exact wp_loop_rounds (n+1) (key n Sf hs hl g a w hS hK Q hQ)
end
end Go.Eng
