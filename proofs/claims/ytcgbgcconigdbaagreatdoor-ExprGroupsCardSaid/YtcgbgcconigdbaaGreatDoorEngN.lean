/-
 THE ENGINE, PART N: WHAT IS LENT TO A CALLEE THAT WRITES.
-/
import Derived.Test.YtcgbgcconigdbaaGreatDoorEngM
namespace Go.Eng
open Go.RowKit
variable {α:Type}
theorem look_append (A B:Obs α) (k:Nat):look (A++B) k=match look A k with
  | some x=>some x
  | none=>look B k:=by
 induction A with
 | nil=>rfl
 | cons x r ih =>
  obtain ⟨n,y⟩:=x
  simp only [List.cons_append,look]
  cases Nat.beq n k with
  | true=>rfl
  | false=>exact ih
theorem look_mem:∀(A:Obs α) (k:Nat) (x:Ob α),look A k=some x→(k,x)∈A
 | [],_,_,h=>by simp [look] at h
 | (n,y)::r,k,x,h=>by
  simp only [look] at h
  cases hb:Nat.beq n k with
  | true =>
   rw [hb] at h
   simp only [cond_true,Option.some.injEq] at h
   obtain rfl:=Nat.eq_of_beq_eq_true hb
   subst h
   exact List.mem_cons_self
  | false=>rw [hb] at h;exact List.mem_cons_of_mem _ (look_mem r k x h)
theorem look_dropA (ns:Nat→Bool):∀(hs:Obs α) (k:Nat),look (dropA ns hs) k=if ns k=true then none else look hs k
 | [],k=>by simp [dropA,look]
 | (n,x)::r,k=>by
  simp only [dropA]
  cases hn:ns n with
  | true =>
   simp only [cond_true]
   rw [look_dropA ns r k,look_cons]
   split
   ·rfl
   ·rename_i hk
    rw [if_neg (fun e=>by rw [e] at hk;exact hk hn)]
  | false =>
   simp only [cond_false]
   rw [look_cons,look_cons,look_dropA ns r k]
   split
   ·rename_i e;subst e;rw [if_neg (by rw [hn];simp)]
   ·rfl
theorem memNat_iff:∀(l:List Nat) (k:Nat),memNat l k=true↔k∈l
 | [],k=>by simp [memNat]
 | x::r,k=>by
  simp only [memNat,Bool.or_eq_true,memNat_iff r k,List.mem_cons]
  exact ⟨fun h=>h.imp (fun h=>(Nat.eq_of_beq_eq_true h).symm) id,fun h=>h.imp (fun h=>by subst h;exact Nat.beq_refl k) id⟩
theorem nmOf_mem:∀(nm:List (Nat×Nat)) (o c:Nat),nmOf nm o=some c→(o,c)∈nm
 | [],_,_,h=>by simp [nmOf] at h
 | (a,b)::r,o,c,h=>by
  simp only [nmOf] at h
  cases hb:Nat.beq a o with
  | true =>
   rw [hb] at h
   simp only [cond_true,Option.some.injEq] at h
   obtain rfl:=Nat.eq_of_beq_eq_true hb
   subst h
   exact List.mem_cons_self
  | false=>rw [hb] at h;exact List.mem_cons_of_mem _ (nmOf_mem r o c h)
theorem nmOf_of_mem:∀(nm:List (Nat×Nat)) (o c:Nat),distinctN (nm.map (·.1))=true→(o,c)∈nm→nmOf nm o=some c
 | [],_,_,_,h=>by simp at h
 | (a,b)::r,o,c,hd,h=>by
  simp only [List.map_cons,distinctN,Bool.and_eq_true,Bool.not_eq_true'] at hd
  simp only [nmOf]
  rcases List.mem_cons.1 h with h | h
  ·cases h
   rw [Nat.beq_refl a];rfl
  ·have hne:a≠o:=by
    rintro rfl
    have:=(memNat_iff (r.map (·.1)) a).2 (List.mem_map.2 ⟨_,h,rfl⟩)
    rw [hd.1] at this;simp at this
   have:Nat.beq a o=false:=by
    cases hb:Nat.beq a o with
    | true=>exact absurd (Nat.eq_of_beq_eq_true hb) hne
    | false=>rfl
   rw [this]
   exact nmOf_of_mem r o c hd.2 h
theorem nmOf_none {nm:List (Nat×Nat)} {o c:Nat} (h:nmOf nm o=none) (hm:(o,c)∈nm):False:=by
 induction nm with
 | nil=>simp at hm
 | cons x r ih =>
  obtain ⟨a,b⟩:=x
  simp only [nmOf] at h
  cases hb:Nat.beq a o with
  | true=>rw [hb] at h;simp at h
  | false =>
   rw [hb] at h
   rcases List.mem_cons.1 hm with h1 | h1
   ·cases h1;rw [Nat.beq_refl o] at hb;simp at hb
   ·exact ih h h1
theorem swapN_mem:∀(nm:List (Nat×Nat)) (a b:Nat),(a,b)∈swapN nm↔(b,a)∈nm
 | [],a,b=>by simp [swapN]
 | (x,y)::r,a,b=>by
  simp only [swapN,List.mem_cons,Prod.mk.injEq,swapN_mem r a b]
  exact ⟨fun h=>h.imp (fun h=>⟨h.2,h.1⟩) id,fun h=>h.imp (fun h=>⟨h.2,h.1⟩) id⟩
theorem swapN_fst:∀(nm:List (Nat×Nat)),(swapN nm).map (·.1)=nm.map (·.2)
 | []=>rfl
 | (x,y)::r=>by simp only [swapN,List.map_cons,swapN_fst r]
theorem inv_mem {nm:List (Nat×Nat)} {o c:Nat} (hd:distinctN (nm.map (·.2))=true) (h:(o,c)∈nm):nmOf (swapN nm) c=some o :=
 nmOf_of_mem _ _ _ (by rw [swapN_fst];exact hd) ((swapN_mem nm c o).2 h)
theorem uniq2 {nm:List (Nat×Nat)} {o o' c:Nat} (hd:distinctN (nm.map (·.2))=true) (h:(o,c)∈nm) (h':(o',c)∈nm):o=o':=by
 have:=(inv_mem hd h).symm.trans (inv_mem hd h')
 simpa using this
theorem uniq1 {nm:List (Nat×Nat)} {o c c':Nat} (hd:distinctN (nm.map (·.1))=true) (h:(o,c)∈nm) (h':(o,c')∈nm):c=c':=by
 have:=(nmOf_of_mem _ _ _ hd h).symm.trans (nmOf_of_mem _ _ _ hd h')
 simpa using this
theorem packOb_kind {C:Pay α} {hs:Obs α} {nm:List (Nat×Nat)} {ob x:Ob α} {ns:List Nat} (h:packOb C hs nm ob=some (x,ns)):ob.fz=false∧x.fz=false∧sameKind ob x:=by
 unfold packOb at h
 split at h
 ·split at h
  ·simp only [Option.some.injEq,Prod.mk.injEq] at h;obtain ⟨rfl,_⟩:=h;exact ⟨rfl,rfl,trivial⟩
  ·simp at h
 ·simp only [Option.some.injEq,Prod.mk.injEq] at h;obtain ⟨rfl,_⟩:=h;exact ⟨rfl,rfl,trivial⟩
 ·simp only [Option.some.injEq,Prod.mk.injEq] at h;obtain ⟨rfl,_⟩:=h;exact ⟨rfl,rfl,trivial⟩
 ·simp at h
theorem packH_spec {C:Pay α} {hs:Obs α} {nm0:List (Nat×Nat)}:∀(nm:List (Nat×Nat)) (H:Obs α) (ns:List Nat),packH C hs nm0 nm=some (H,ns) →
  (∀c x,(c,x)∈H→∃o ob ns1,(o,c)∈nm∧look hs o=some ob∧packOb C hs nm0 ob=some (x,ns1)∧∀y∈ns1,y∈ns)∧∀o c,(o,c)∈nm→∃x,look H c=some x
 | [],H,ns,h=>by
  simp only [packH,Option.some.injEq,Prod.mk.injEq] at h
  obtain ⟨rfl,rfl⟩:=h
  exact ⟨fun c x h=>by simp at h,fun o c h=>by simp at h⟩
 | (a,b)::r,H,ns,h=>by
  simp only [packH] at h
  split at h
  ·rename_i ob hob
   split at h
   ·rename_i x n1 H1 n2 h1 h2
    simp only [Option.some.injEq,Prod.mk.injEq] at h
    obtain ⟨rfl,rfl⟩:=h
    obtain ⟨k1,k2⟩:=packH_spec r H1 n2 h2
    refine ⟨fun c y hy=>?_,fun o c hc=>?_⟩
    ·rcases List.mem_cons.1 hy with hy | hy
     ·simp only [Prod.mk.injEq] at hy
      obtain ⟨rfl,rfl⟩:=hy
      exact ⟨a,ob,n1,List.mem_cons_self,hob,h1,fun y hy=>List.mem_append_left _ hy⟩
     ·obtain ⟨o,ob',n3,q1,q2,q3,q4⟩:=k1 c y hy
      exact ⟨o,ob',n3,List.mem_cons_of_mem _ q1,q2,q3,fun y hy=>List.mem_append_right _ (q4 y hy)⟩
    ·rw [look_cons]
     by_cases hcb:c=b
     ·exact ⟨x,by rw [if_pos hcb]⟩
     ·rw [if_neg hcb]
      rcases List.mem_cons.1 hc with hc | hc
      ·simp only [Prod.mk.injEq] at hc;exact absurd hc.2 hcb
      ·exact k2 o c hc
   ·simp at h
  ·simp at h
structure PackE (C:Pay α) (hs:Obs α) (nm:List (Nat×Nat)) (ds:List (D α)) (H:Obs α) (l:List (D α)) (ns:List Nat):Prop where
 d1:distinctN (nm.map (·.1))=true
 d2:distinctN (nm.map (·.2))=true
 ro:∀o,o∈ns→nmOf nm o=none
 ex:∀c x,look H c=some x→∃o ob ns1,(o,c)∈nm∧look hs o=some ob∧packOb C hs nm ob=some (x,ns1)∧∀y∈ns1,y∈ns
 im:∀o c,(o,c)∈nm→∃ob x ns1,look hs o=some ob∧look H c=some x∧packOb C hs nm ob=some (x,ns1)∧∀y∈ns1,y∈ns
 fz:∀e∈H,e.2.fz=false
 args:∃ms,packAll C hs nm ds=some (l,ms)∧∀y∈ms,y∈ns
theorem packE_spec {C:Pay α} {hs:Obs α} {nm:List (Nat×Nat)} {ds:List (D α)} {H:Obs α} {l:List (D α)} {ns:List Nat} (h:packE C hs nm ds=some (H,l,ns)):PackE C hs nm ds H l ns:=by
 unfold packE at h
 split at h
 ·rename_i H0 n0 l0 m0 h1 h2
  cases hc:distinctN (nm.map (·.1))&&(distinctN (nm.map (·.2))&&(n0++m0).all fun o=>(nmOf nm o).isNone) with
  | false=>rw [hc] at h;simp at h
  | true =>
  rw [hc] at h
  simp only [cond_true,Option.some.injEq,Prod.mk.injEq] at h
  obtain ⟨rfl,rfl,rfl⟩:=h
  simp only [Bool.and_eq_true,List.all_eq_true,Option.isNone_iff_eq_none] at hc
  obtain ⟨q1,q2,q3⟩:=hc
  obtain ⟨k1,k2⟩:=packH_spec nm _ _ h1
  have hex:∀c x,look H0 c=some x→∃o ob ns1,(o,c)∈nm∧look hs o=some ob∧packOb C hs nm ob=some (x,ns1)∧∀y∈ns1,y∈n0++m0:=by
   intro c x hx
   obtain ⟨o,ob,n1,r1,r2,r3,r4⟩:=k1 c x (look_mem _ _ _ hx)
   exact ⟨o,ob,n1,r1,r2,r3,fun y hy=>List.mem_append_left _ (r4 y hy)⟩
  refine ⟨q1,q2,q3,hex,fun o c hoc=>?_,fun e he=>?_,m0,h2,fun y hy=>List.mem_append_right _ hy⟩
  ·obtain ⟨x,hx⟩:=k2 o c hoc
   obtain ⟨o',ob,n1,r1,r2,r3,r4⟩:=hex c x hx
   obtain rfl:=uniq2 q2 hoc r1
   exact ⟨ob,x,n1,r2,hx,r3,r4⟩
  ·obtain ⟨c,x⟩:=e
   obtain ⟨_,_,_,_,_,r3,_⟩:=k1 c x he
   exact (packOb_kind r3).2.1
 ·simp at h
theorem dec_enc:∀(H:Obs α),(∀e∈H,e.2.fz=false)→decH (encH H)=H
 | [],_=>rfl
 | (n,.box f cs)::r,h=>by
  have h1:f=false:=h _ List.mem_cons_self
  subst h1
  simp only [encH,decH,dec_enc r fun e he=>h e (List.mem_cons_of_mem _ he)]
 | (n,.arr f p)::r,h=>by
  have h1:f=false:=h _ List.mem_cons_self
  subst h1
  simp only [encH,decH,dec_enc r fun e he=>h e (List.mem_cons_of_mem _ he)]
 | (n,.map f p)::r,h=>by
  have h1:f=false:=h _ List.mem_cons_self
  subst h1
  simp only [encH,decH,dec_enc r fun e he=>h e (List.mem_cons_of_mem _ he)]
theorem decH_fz:∀(os:List (D α)) (c:Nat) (ob:Ob α),look (decH os) c=some ob→ob.fz=false:=by
  have:∀(os:List (D α)) (e:Nat×Ob α),e∈decH os→e.2.fz=false:=by
    intro os
    induction os with
    | nil=>intro e h;simp [decH] at h
    | cons d r ih =>
      intro e h
      cases d<;>simp only [decH] at h
      case obB n cs => rcases List.mem_cons.1 h with rfl | h; · rfl
                       · exact ih e h
      case obA n p => rcases List.mem_cons.1 h with rfl | h; · rfl
                      · exact ih e h
      case obM n p => rcases List.mem_cons.1 h with rfl | h; · rfl
                      · exact ih e h
      all_goals exact ih e h
  exact fun os c ob h=>this os (c,ob) (look_mem _ _ _ h)
section
variable {X:Ctx α} (hX:XOk X) {g:Gh} {tm:List (D α)} {hs:Obs α} {a:Act} {w:World} (hS:Sim X g tm hs a w)
structure PackTo (g:Gh) (hs:Obs α) (w:World) (nm:List (Nat×Nat)) (ns:List Nat) (cx':Cx α):Prop where
 hw:cx'.w=w
 av:∀b,cx'.av b→(cxOf g hs w).av b
 ro:∀o ob b,o∈ns→look hs o=some ob→g.rho o=some b→¬ cx'.av b
 bx:∀o c b,nmOf nm o=some c→(cxOf g hs w).bx o=some b→cx'.bx c=some b
 ar:∀o c b p,nmOf nm o=some c→(cxOf g hs w).ar o=some (b,p)→cx'.ar c=some (b,p)
theorem PackTo.le {C:Pay α} {nm:List (Nat×Nat)} {ns:List Nat} {cx':Cx α} (h:PackTo g hs w nm ns cx'):CxLe C (fun _=>true) (cxOf g hs w) cx' where
 cell:=fun _ _ _ hh=>by rw [h.hw];exact hh
 av:=fun b _ _ hv h'=>hv (h.av b h')
 bx:=fun _ _ hh=>by simp at hh
 ar:=fun _ _ _ hh=>by simp at hh
 size:=fun _ cells T fz hh=>⟨cells,T,fz,by rw [h.hw];exact hh,rfl⟩
include hX hS in
theorem pack_sound {nm:List (Nat×Nat)} {ns0:List Nat} {cx':Cx α} (hP:PackTo g hs w nm ns0 cx'):∀(n:Nat),
  (∀(d:D α) (v:Value) d' ns,RD X.C (cxOf g hs w) v d→pack X.C hs nm n d=some (d',ns)→(∀o,o∈ns→o∈ns0)→RD X.C cx' v d') ∧
  (∀(l:List (D α)) l' ns,pack.packL X.C hs nm n l=some (l',ns)→(∀o,o∈ns→o∈ns0)→l'.length=l.length ∧
   ∀(i:Nat) v c c',l[i]?=some c→l'[i]?=some c'→RD X.C (cxOf g hs w) v c→RD X.C cx' v c'):=by
 intro n
 induction n with
 | zero =>
  refine ⟨fun d v d' ns _ h=>by simp [pack] at h,fun l l' ns h _=>?_⟩
  cases l with
  | nil=>simp only [pack.packL,Option.some.injEq,Prod.mk.injEq] at h;obtain ⟨rfl,rfl⟩:=h;exact ⟨rfl,fun i v c c' hc=>by simp at hc⟩
  | cons d r=>simp [pack.packL] at h
 | succ n ih =>
  obtain ⟨ih1,ih2⟩:=ih
  refine ⟨fun d v d' ns hd h hns=>?_,fun l l' ns h hns=>?_⟩
  ·unfold pack at h
   split at h
   ·omega
   ·rename_i o heq
    split at h
    ·rename_i c hc
     simp only [Option.some.injEq,Prod.mk.injEq] at h
     obtain ⟨rfl,rfl⟩:=h
     cases hd with
     | arrO _ b p' n' c' ho hn hc' hz=>exact .arrO c b p' n' c' (hP.ar o c _ _ hc ho) hn hc' (by rw [hP.hw];exact hz)
     | arrN _ p' a' ho hn=>exact .arrN c p' a' (hP.ar o c _ _ hc ho) hn
    split at h
    ·rename_i fz p hl
     simp only [Option.some.injEq,Prod.mk.injEq] at h
     obtain ⟨rfl,rfl⟩:=h
     have har:=arr_of (g:=g) (w:=w) hl
     have hob:=hS.obs o _ hl
     cases hd with
     | arrO _ b p' n' c ho hn hc hz =>
      rw [har] at ho
      simp only [Option.some.injEq,Prod.mk.injEq] at ho
      obtain ⟨hrho,rfl⟩:=ho
      rw [hrho] at hob
      obtain ⟨cells,T,hh,hsz,hbg,h1,hr⟩:=hob
      subst hn
      have hlt:∀i j d,i < X.C.len p→(X.C.elem p i)[j]?=some d→i * X.C.esz p+j < cells.size:=by
       intro i j d hi hj
       have hj':j < X.C.esz p:=by
        rw [←hX.pay.elen p i hi];rcases Nat.lt_or_ge j (X.C.elem p i).length with h | h
        ·exact h
        ·simp [List.getElem?_eq_none h] at hj
       have:(i+1) * X.C.esz p≤X.C.len p * X.C.esz p:=Nat.mul_le_mul_right _ hi
       rw [Nat.add_mul] at this;omega
      refine .pl b 0 _ c p .any (fun i j=>(cells[i * X.C.esz p+j]?).getD undef) rfl hc hbg trivial (hP.ro o _ b (hns o List.mem_cons_self) hl hrho) (fun i j d hi hj=>?_) (fun i j d hi hj=>?_) (fun i j d hi hj=>?_) True.intro (fun _=>⟨Nat.zero_mod _,cells,T,by rw [hP.hw];exact hh⟩)
      ·have:=hlt i j d hi hj
       show cx'.w.cell? _=_
       rw [hP.hw]
       rw [Nat.zero_add,cell_at (w:=w) hh]
       simp [this]
      ·have:=hlt i j d hi hj
       simp only [this,getElem?_pos,Option.getD_some]
       exact h1 _ _ (Array.getElem?_eq_getElem this)
      ·have:=hlt i j d hi hj
       simp only [this,getElem?_pos,Option.getD_some]
       exact RD.closedTo hX.pay hP.le (hX.pay.clo p i d (List.mem_of_getElem? hj)) (hr i j _ d hi (Array.getElem?_eq_getElem this) hj)
     | arrN _ p' a' ho hn =>
      rw [har] at ho
      simp only [Option.some.injEq,Prod.mk.injEq] at ho
      obtain ⟨hrho,rfl⟩:=ho
      exact .pl0 _ _ _ _ hn trivial
    ·simp at h
   ·rename_i n' o off heq
    obtain rfl:n=n':=by simpa using heq
    split at h
    ·rename_i c hc
     simp only [Option.some.injEq,Prod.mk.injEq] at h
     obtain ⟨rfl,rfl⟩:=h
     cases hd with | ptr _ _ b ho=>exact .ptr c off b (hP.bx o c b hc ho)
    split at h
    ·rename_i fz cs hl
     split at h
     ·rename_i l ms hll
      simp only [Option.some.injEq,Prod.mk.injEq] at h
      obtain ⟨rfl,rfl⟩:=h
      obtain ⟨b,o',hv,hat⟩:=cellsAt_sound hX hS hd (show cellsAt X.C hs (.ptr o off)=some (cs,off) by simp [cellsAt,hl])
      subst hv
      obtain ⟨hlen,hget⟩:=ih2 _ _ _ hll (fun o' ho'=>hns o' (List.mem_cons_of_mem _ ho'))
      have hex:∀(i:Nat) c',l[i]?=some c'→∃u,w.cell? ⟨b,o'+i,none⟩=some u∧u.oneCell'=true∧RD X.C cx' u c':=by
       intro i c' hc'
       have hi:i < (cs.drop off).length:=by
        rw [←hlen];rcases Nat.lt_or_ge i l.length with h | h
        ·exact h
        ·simp [List.getElem?_eq_none h] at hc'
       have hc:(cs.drop off)[i]?=some ((cs.drop off)[i]):=by simp
       obtain ⟨u,h1,h2,h3⟩:=hat i _ (by rw [←List.getElem?_drop];exact hc)
       exact ⟨u,h1,h2,hget i u _ c' hc hc' h3⟩
      have hbo:g.rho o=some b:=by
       cases hd with | ptr _ _ _ ho=>simpa [cxOf,hl] using ho
      refine .ref b o' l (fun i=>(w.cell? ⟨b,o'+i,none⟩).getD undef) (fun _=>hP.ro o _ b (hns o List.mem_cons_self) hl hbo) (fun i c hc=>?_) (fun i c hc=>?_) (fun i c hc=>?_)
      all_goals obtain ⟨u,h1,h2,h3⟩:=hex i c hc
      ·show cx'.w.cell? _=_;rw [hP.hw,h1];rfl
      ·rw [h1];exact h2
      ·rw [h1];exact h3
     ·simp at h
    ·simp at h
   ·rename_i o i off heq
    split at h
    ·rename_i c hc
     simp only [Option.some.injEq,Prod.mk.injEq] at h
     obtain ⟨rfl,rfl⟩:=h
     cases hd with | epr _ _ _ b p' ho hi=>exact .epr c i off b p' (hP.ar o c _ _ hc ho) hi
    split at h
    ·rename_i fz p hl
     simp only [Option.some.injEq,Prod.mk.injEq] at h
     obtain ⟨rfl,rfl⟩:=h
     obtain ⟨b,o',hv,hat⟩:=cellsAt_sound hX hS hd (show cellsAt X.C hs (.epr o i off)=some (X.C.elem p i,off) by simp [cellsAt,hl])
     subst hv
     have hbo:g.rho o=some b∧i < X.C.len p:=by
      cases hd with | epr _ _ _ _ p' ho hi =>
      rw [arr_of (g:=g) (w:=w) hl] at ho
      simp only [Option.some.injEq,Prod.mk.injEq] at ho
      obtain ⟨h1,rfl⟩:=ho
      exact ⟨h1,hi⟩
     refine .ref b o' _ (fun i=>(w.cell? ⟨b,o'+i,none⟩).getD undef) (fun _=>hP.ro o _ b (hns o List.mem_cons_self) hl hbo.1) (fun j c hc=>?_) (fun j c hc=>?_) (fun j c hc=>?_)
     all_goals
      rw [List.getElem?_drop] at hc
      obtain ⟨u,h1,h2,h3⟩:=hat j c hc
      have h1:w.cell? _=some u:=h1
     ·show cx'.w.cell? _=_;rw [hP.hw,h1];rfl
     ·rw [h1];exact h2
     ·rw [h1];exact RD.closedTo hX.pay hP.le (hX.pay.clo p i c (List.mem_of_getElem? hc)) h3
    ·simp at h
   ·rename_i n' o heq
    split at h
    ·rename_i c hc
     simp only [Option.some.injEq,Prod.mk.injEq] at h
     obtain ⟨rfl,rfl⟩:=h
     cases hd with | mp _ b ho=>exact .mp c b (hP.bx o c b hc ho)
    split at h
    ·rename_i fz p hl
     simp only [Option.some.injEq,Prod.mk.injEq] at h
     obtain ⟨rfl,rfl⟩:=h
     cases hd with | mp _ b ho =>
     have hrho:g.rho o=some b:=by simpa [cxOf,hl] using ho
     obtain ⟨b',es,clock,hb',hh,hsz,hdd,hk,hv⟩:=hS.obs o _ hl
     rw [hrho] at hb'
     simp only [Option.some.injEq] at hb'
     subst hb'
     have hlt:∀(i:Nat) e,es[i]?=some e→i < X.C.len p:=by
      intro i e he
      rw [←hsz.size]
      rcases Nat.lt_or_ge i es.size with h | h
      ·exact h
      ·simp [Array.getElem?_eq_none h] at he
     exact .mr b clock es p (hP.ro o _ b (hns o List.mem_cons_self) hl hrho) (by rw [hP.hw];exact hh) hsz hdd (fun i e he=>RD.closedTo hX.pay hP.le (hX.pay.mkclo p i (hlt i e he)) (hk i e he))
      fun i e he=>RD.closedTo hX.pay hP.le (hX.pay.mvclo p i (hlt i e he)) (hv i e he)
    ·simp at h
   ·rename_i n' cs heq
    obtain rfl:n=n':=by simpa using heq
    split at h
    ·rename_i l ms hll
     simp only [Option.some.injEq,Prod.mk.injEq] at h
     obtain ⟨rfl,rfl⟩:=h
     obtain ⟨hlen,hget⟩:=ih2 _ _ _ hll hns
     cases hd with | agg vs _ hs' h1 hr =>
     refine .agg vs l (by rw [hlen];exact hs') h1 fun i v c hv hc=>?_
     have hi:i < cs.length:=by rw [←hs'];rcases Nat.lt_or_ge i vs.size with h | h;exact h;simp [Array.getElem?_eq_none h] at hv
     have hc0:cs[i]?=some cs[i]:=by simp [hi]
     exact hget i v _ c hc0 hc (hr i v _ hv hc0)
    ·simp at h
   ·rename_i n' cs heq
    obtain rfl:n=n':=by simpa using heq
    split at h
    ·rename_i l ms hll
     simp only [Option.some.injEq,Prod.mk.injEq] at h
     obtain ⟨rfl,rfl⟩:=h
     obtain ⟨hlen,hget⟩:=ih2 _ _ _ hll hns
     cases hd with | tup vs _ hs' hr =>
     refine .tup vs l (by rw [hlen];exact hs') fun i v c hv hc=>?_
     have hi:i < cs.length:=by rw [←hs'];rcases Nat.lt_or_ge i vs.size with h | h;exact h;simp [Array.getElem?_eq_none h] at hv
     have hc0:cs[i]?=some cs[i]:=by simp [hi]
     exact hget i v _ c hc0 hc (hr i v _ hv hc0)
    ·simp at h
   ·rename_i n' cs heq
    obtain rfl:n=n':=by simpa using heq
    split at h
    ·rename_i l ms hll
     simp only [Option.some.injEq,Prod.mk.injEq] at h
     obtain ⟨rfl,rfl⟩:=h
     obtain ⟨hlen,hget⟩:=ih2 _ _ _ hll hns
     cases hd with | ref b off _ vs hv0 hcell h1 hr =>
     have hc0:∀(i:Nat) c,l[i]?=some c→∃c0,cs[i]?=some c0:=by
      intro i c hc
      have hi:i < cs.length:=by
       rw [←hlen];rcases Nat.lt_or_ge i l.length with h | h
       ·exact h
       ·simp [List.getElem?_eq_none h] at hc
      exact ⟨cs[i],by simp [hi]⟩
     refine .ref b off l vs (fun hne h'=>hv0 (fun e=>hne (by subst e;exact List.eq_nil_of_length_eq_zero (by simpa using hlen))) (hP.av b h')) (fun i c hc=>?_) (fun i c hc=>?_) fun i c hc=>?_
     all_goals obtain ⟨c0,hc0⟩:=hc0 i c hc
     ·rw [hP.hw];exact hcell i c0 hc0
     ·exact h1 i c0 hc0
     ·exact hget i _ c0 c hc0 hc (hr i c0 hc0)
    ·simp at h
   ·rename_i n' f cs heq
    obtain rfl:n=n':=by simpa using heq
    split at h
    ·rename_i l ms hll
     simp only [Option.some.injEq,Prod.mk.injEq] at h
     obtain ⟨rfl,rfl⟩:=h
     obtain ⟨hlen,hget⟩:=ih2 _ _ _ hll hns
     cases hd with | fn _ f' va vb vs _ hs' hr hm =>
     refine .fn f f' va vb vs l (by rw [hlen];exact hs') (fun i v c hv hc=>?_) hm
     have hi:i < cs.length:=by rw [←hs'];rcases Nat.lt_or_ge i vs.size with h | h;exact h;simp [Array.getElem?_eq_none h] at hv
     have hc0:cs[i]?=some cs[i]:=by simp [hi]
     exact hget i v _ c hc0 hc (hr i v _ hv hc0)
    ·simp at h
   ·rename_i n' t d0 heq
    obtain rfl:n=n':=by simpa using heq
    split at h
    ·rename_i x ms hll
     simp only [Option.some.injEq,Prod.mk.injEq] at h
     obtain ⟨rfl,rfl⟩:=h
     cases hd with | ifc _ v' _ h' =>
     exact .ifc t v' x (ih1 _ _ _ _ h' hll hns)
    ·simp at h
   ·simp at h
   ·simp at h
   ·simp only [Option.some.injEq,Prod.mk.injEq] at h
    obtain ⟨rfl,rfl⟩:=h
    exact RD.closedTo hX.pay hP.le (closed_of_not (by assumption) (by assumption) (by assumption) (by assumption) (by assumption) (by assumption) (by assumption) (by assumption) (by assumption) (by assumption) (by assumption)) hd
  ·cases l with
   | nil=>simp only [pack.packL,Option.some.injEq,Prod.mk.injEq] at h;obtain ⟨rfl,rfl⟩:=h;exact ⟨rfl,fun i v c c' hc=>by simp at hc⟩
   | cons d r =>
    simp only [pack.packL] at h
    split at h
    ·rename_i x ms l0 ns0' h1 h2
     simp only [Option.some.injEq,Prod.mk.injEq] at h
     obtain ⟨rfl,rfl⟩:=h
     obtain ⟨hlen,hget⟩:=ih2 r l0 ns0' h2 (fun o ho=>hns o (List.mem_append_right _ ho))
     refine ⟨by simp [hlen],fun i v c c' hc hc' hv=>?_⟩
     cases i with
     | zero =>
      simp only [List.getElem?_cons_zero,Option.some.injEq] at hc hc'
      subst hc hc'
      exact ih1 _ v _ _ hv h1 (fun o ho=>hns o (List.mem_append_left _ ho))
     | succ i=>exact hget i v c c' (by simpa using hc) (by simpa using hc') hv
    ·simp at h
include hX hS in
theorem packAll_sound {nm:List (Nat×Nat)} {ns0:List Nat} {cx':Cx α} (hP:PackTo g hs w nm ns0 cx'):∀(l:List (D α)) l' ns,packAll X.C hs nm l=some (l',ns)→(∀o,o∈ns→o∈ns0) →
  l'.length=l.length∧∀(i:Nat) v c c',l[i]?=some c→l'[i]?=some c'→RD X.C (cxOf g hs w) v c→RD X.C cx' v c'
 | [],l',ns,h,_=>by simp only [packAll,Option.some.injEq,Prod.mk.injEq] at h;obtain ⟨rfl,rfl⟩:=h;exact ⟨rfl,fun i v c c' hc=>by simp at hc⟩
 | d::r,l',ns,h,hns=>by
  simp only [packAll] at h
  split at h
  ·rename_i x ms l0 ns0' h1 h2
   simp only [Option.some.injEq,Prod.mk.injEq] at h
   obtain ⟨rfl,rfl⟩:=h
   obtain ⟨hlen,hget⟩:=packAll_sound hP r l0 ns0' h2 (fun o ho=>hns o (List.mem_append_right _ ho))
   refine ⟨by simp [hlen],fun i v c c' hc hc' hv=>?_⟩
   cases i with
   | zero =>
    simp only [List.getElem?_cons_zero,Option.some.injEq] at hc hc'
    subst hc hc'
    exact (pack_sound hX hS hP 40).1 _ v _ _ hv h1 (fun o ho=>hns o (List.mem_append_left _ ho))
   | succ i=>exact hget i v c c' (by simpa using hc) (by simpa using hc') hv
  ·simp at h
include hX hS in
theorem packOb_sound {nm:List (Nat×Nat)} {ns0 ns:List Nat} {cx':Cx α} (hP:PackTo g hs w nm ns0 cx') {b:Option Nat} {ob x:Ob α} (hob:ObRel X.C (cxOf g hs w) b ob) (h:packOb X.C hs nm ob=some (x,ns)) (hns:∀y∈ns,y∈ns0) :
  ObRel X.C cx' b x:=by
 unfold packOb at h
 split at h
 ·rename_i cs
  split at h
  ·rename_i l n1 h1
   simp only [Option.some.injEq,Prod.mk.injEq] at h
   obtain ⟨rfl,rfl⟩:=h
   obtain ⟨b',cells,T,h2,h3,h4,h5,h6⟩:=hob
   obtain ⟨hlen,hget⟩:=packAll_sound hX hS hP cs l n1 h1 hns
   refine ⟨b',cells,T,h2,by rw [hP.hw];exact h3,by rw [hlen];exact h4,h5,fun i v c hv hc=>?_⟩
   have hi:i < cs.length:=by
    rw [←hlen];rcases Nat.lt_or_ge i l.length with h | h
    ·exact h
    ·simp [List.getElem?_eq_none h] at hc
   have hc0:cs[i]?=some cs[i]:=by simp [hi]
   exact hget i v _ c hc0 hc (h6 i v _ hv hc0)
  ·simp at h
 ·simp only [Option.some.injEq,Prod.mk.injEq] at h
  obtain ⟨rfl,rfl⟩:=h
  cases b with
  | none=>exact hob
  | some b' =>
   obtain ⟨cells,T,h1,h2,h3,h4,h5⟩:=hob
   exact ⟨cells,T,by rw [hP.hw];exact h1,h2,h3,h4,fun i j v d hi hv hd=>RD.closedTo hX.pay hP.le (hX.pay.clo _ i d (List.mem_of_getElem? hd)) (h5 i j v d hi hv hd)⟩
 ·rename_i p
  simp only [Option.some.injEq,Prod.mk.injEq] at h
  obtain ⟨rfl,rfl⟩:=h
  obtain ⟨b',es,clock,h1,h2,h3,h4,h5,h6⟩:=hob
  have hlt:∀(i:Nat) e,es[i]?=some e→i < X.C.len p:=by
   intro i e he
   rw [←h3.size]
   rcases Nat.lt_or_ge i es.size with h | h
   ·exact h
   ·simp [Array.getElem?_eq_none h] at he
  exact ⟨b',es,clock,h1,by rw [hP.hw];exact h2,h3,h4,fun i e he=>RD.closedTo hX.pay hP.le (hX.pay.mkclo p i (hlt i e he)) (h5 i e he),fun i e he=>RD.closedTo hX.pay hP.le (hX.pay.mvclo p i (hlt i e he)) (h6 i e he)⟩
 ·simp at h
theorem packTo_of {nm:List (Nat×Nat)} {ds l:List (D α)} {H:Obs α} {ns:List Nat} (hpk:PackE X.C hs nm ds H l ns) (g2:Gh) (H3:Obs α) (hr:∀o c,(o,c)∈nm→g2.rho c=g.rho o) (hl:∀c x,look H c=some x→look H3 c=some x)
    (hav:∀b,(cxOf g2 H3 w).av b→(cxOf g hs w).av b) (hro:∀o ob b,o∈ns→look hs o=some ob→g.rho o=some b→¬ (cxOf g2 H3 w).av b):PackTo g hs w nm ns (cxOf g2 H3 w) where
  hw:=rfl
  av:=hav
  ro:=hro
  bx:=fun o c b hoc hb=>by
    have hm:=nmOf_mem _ _ _ hoc
    obtain ⟨ob,x,n1,h1,h2,h3,_⟩:=hpk.im o c hm
    obtain ⟨_,_,hk⟩:=packOb_kind h3
    simp only [cxOf,h1] at hb
    simp only [cxOf,hl c x h2,hr o c hm]
    cases ob<;>cases x<;>simp_all [sameKind]
  ar := fun o c b p hoc hb => by
    have hm:=nmOf_mem _ _ _ hoc
    obtain ⟨ob,x,n1,h1,h2,h3,_⟩:=hpk.im o c hm
    simp only [cxOf,h1] at hb
    simp only [cxOf,hl c x h2,hr o c hm]
    cases ob with
    | box f cs=>simp at hb
    | map f q=>simp at hb
    | arr f q =>
      cases f with
      | true=>simp [packOb] at h3
      | false =>
        simp only [packOb,Option.some.injEq,Prod.mk.injEq] at h3
        obtain ⟨rfl,_⟩:=h3
        exact hb
def rhoP (nm:List (Nat×Nat)) (rho:Nat→Option Nat):Nat→Option Nat:=fun c=>(nmOf (swapN nm) c).bind rho
theorem rhoP_mem {nm:List (Nat×Nat)} {rho:Nat→Option Nat} {o c:Nat} (hd:distinctN (nm.map (·.2))=true) (h:(o,c)∈nm):rhoP nm rho c=rho o:=by
 simp [rhoP,inv_mem hd h]
def lentB (g:Gh) (hs:Obs α) (nm:List (Nat×Nat)) (b:Nat):Prop:=∃o c ob,(o,c)∈nm∧look hs o=some ob∧g.rho o=some b
def ghC (g:Gh) (hs:Obs α) (w:World) (nm:List (Nat×Nat)) (ns:List Nat):Gh:=⟨w,avBut g hs w (ns++nm.map (·.1)),rhoP nm g.rho,lentB g hs nm,fun _=>none⟩
include hX hS in
theorem enter_env {nm:List (Nat×Nat)} {ds l:List (D α)} {H:Obs α} {ns:List Nat} (hpk:PackE X.C hs nm ds H l ns) :
  Sim (ctx0 X.P X.C X.glob) (ghC g hs w nm ns) [] H act0 w∧PackTo g hs w nm ns (cxOf (ghC g hs w nm ns) H w):=by
 have hsrc:∀c x b,look H c=some x→rhoP nm g.rho c=some b→∃o ob,(o,c)∈nm∧look hs o=some ob∧ob.fz=false∧g.rho o=some b:=by
  intro c x b hx hb
  obtain ⟨o,ob,n1,h1,h2,h3,h4⟩:=hpk.ex c x hx
  rw [rhoP_mem hpk.d2 h1] at hb
  exact ⟨o,ob,h1,h2,(packOb_kind h3).1,hb⟩
 have hlav:∀b,lentB g hs nm b→(cxOf g hs w).av b:=by
  rintro b ⟨o,c,ob,h1,h2,h3⟩
  obtain ⟨ob',x,n1,k1,_,k3,_⟩:=hpk.im o c h1
  rw [h2] at k1
  simp only [Option.some.injEq] at k1
  subst k1
  exact .inr ⟨o,ob,h2,(packOb_kind k3).1,h3⟩
 have hP:PackTo g hs w nm ns (cxOf (ghC g hs w nm ns) H w):=packTo_of hpk _ H (fun o c h=>rhoP_mem hpk.d2 h) (fun _ _ h=>h)
  (fun b hb=>by
   rcases hb with hb | ⟨c,x,hx,_,hr⟩
   ·exact hb.1
   ·obtain ⟨o,ob,_,h2,h3,h4⟩:=hsrc c x b hx hr
    exact .inr ⟨o,ob,h2,h3,h4⟩)
  (fun o ob b ho hlo hr hb=>by
   rcases hb with hb | ⟨c,x,hx,_,hr'⟩
   ·exact hb.2 o ob (List.mem_append_left _ ho) hlo hr
   ·obtain ⟨o',ob',h1,h2,h3,h4⟩:=hsrc c x b hx hr'
    obtain rfl:=hS.inj o o' ob ob' b hlo h2 hr h4
    exact nmOf_none (hpk.ro o ho) h1)
 refine ⟨⟨rfl,fun t=>.bad _,rfl,fun c x hx=>?_,fun c c' x x' b hx hx' hr hr'=>?_,fun c x b hx hr=>?_,toL (BelowD.refl _ _),fun b hb=>?_,fun b hb=>?_,fun _ _ h=>by simp [ghC] at h,?_⟩,hP⟩
 ·obtain ⟨o,ob,n1,h1,h2,h3,h4⟩:=hpk.ex c x hx
  show ObRel X.C _ (rhoP nm g.rho c) x
  rw [rhoP_mem hpk.d2 h1]
  exact packOb_sound hX hS hP (hS.obs o ob h2) h3 h4
 ·obtain ⟨o,ob,h1,h2,h3,h4⟩:=hsrc c x b hx hr
  obtain ⟨o',ob',h1',h2',h3',h4'⟩:=hsrc c' x' b hx' hr'
  obtain rfl:=hS.inj o o' ob ob' b h2 h2' h4 h4'
  exact uniq1 hpk.d1 h1 h1'
 ·obtain ⟨o,ob,h1,h2,h3,h4⟩:=hsrc c x b hx hr
  exact ⟨.inr ⟨o,c,ob,h1,h2,h4⟩,(hS.own o ob b h2 h4).2⟩
 ·show b < w.heap.size
  rcases hb.1 with h | ⟨o,ob,hl',_,hr'⟩
  ·have:=hS.av0 b h;have:=hS.below.size;omega
  ·exact (hS.own o ob b hl' hr').2
 ·obtain ⟨o,c,ob,h1,h2,h3⟩:=hb
  exact ⟨(hS.own o ob b h2 h3).2,fun h=>h.2 o ob (List.mem_append_right _ (List.mem_map.2 ⟨_,h1,rfl⟩)) h2 h3⟩
 ·exact glob_av hX hS fun b hb=>by
   rcases hb with hb | hb
   ·exact hb.1
   ·exact hlav b hb
theorem killOb_fz (ks:Nat→Bool) (ob:Ob α):(killOb ks ob).fz=ob.fz:=by cases ob<;>rfl
theorem freezeOb_fz (ob:Ob α):(freezeOb ob).fz=true:=by cases ob<;>rfl
theorem sameKind_kill (ks:Nat→Bool) (ob:Ob α):sameKind ob (killOb ks ob):=by cases ob<;>trivial
theorem topNm_lt {hs:Obs α} {tops:List (Nat×Nat)} (h:tops.all (topOk hs)=true) {o c:Nat} (hm:(o,c)∈tops):Nat.blt c 100000=true∧∃ob,look hs o=some ob∧∀f p,ob≠.arr f p:=by
 have:=List.all_eq_true.1 h _ hm
 unfold topOk at this
 split at this
 ·rename_i f cs hl;simp only [Bool.and_eq_true] at this;exact ⟨this.1,_,hl,by simp⟩
 ·rename_i f cs hl;simp only [Bool.and_eq_true] at this;exact ⟨this.1,_,hl,by simp⟩
 ·simp at this
theorem bm_kind {x y:Ob α} (h:sameKind x y) (hx:∀f p,x≠.arr f p):∀f p,y≠.arr f p:=by
 rintro f p rfl
 cases x with
 | arr f' p'=>exact hx f' p' rfl
 | box _ _=>exact h
 | map _ _=>exact h
theorem bx_bm {g:Gh} {hs:Obs α} {w:World} {o:Nat} {ob:Ob α} (hl:look hs o=some ob) (hn:∀f p,ob≠.arr f p):(cxOf g hs w:Cx α).bx o=g.rho o:=by
 simp only [cxOf,hl]
 cases ob with
 | arr f p=>exact absurd rfl (hn f p)
 | box _ _=>rfl
 | map _ _=>rfl
theorem xok_ctx0 (hX:XOk X):XOk (ctx0 X.P X.C X.glob):=⟨hX.pay,fun t h=>by simp [ctx0] at h,hX.mixed⟩
include hX hS in
theorem back_sound {tops nests:List (Nat×Nat)} {args ds:List (D α)} {H H':Obs α} {ns:List Nat} (hpk:PackE X.C hs (tops++nests) args H ds ns) (htop:tops.all (topOk hs)=true)
  (hfz:∀c ob,look H' c=some ob→ob.fz=false) {w':World} {rho':Nat→Option Nat} (hS':Sim (ctx0 X.P X.C X.glob) { ghC g hs w (tops++nests) ns with rho:=rho' } [] H' act0 w')
  (hkept:∀c ob,Nat.blt c 100000=true→look H c=some ob→rho' c=rhoP (tops++nests) g.rho c∧∃ob',look H' c=some ob'∧∀f p,ob'≠.arr f p)
  {ch:List (D α)×Obs α×D α} {d:D α} (hb:backM X tm hs tops nests ns H' d=some ch) {v:Value} (hr:RD X.C (cxOf { ghC g hs w (tops++nests) ns with rho:=rho' } H' w') v d) :
  ∃rho3,Sim X { g with rho:=rho3 } ch.1 ch.2.1 a w'∧RD X.C (cxOf { g with rho:=rho3 } ch.2.1 w') v ch.2.2:=by
 have hX':=xok_ctx0 hX
 unfold backM at hb
 simp only at hb
 generalize newsOf (aboveN 1000000000000 hs) H'++nestsOf H' outNest (swapN tops++newsOf (aboveN 1000000000000 hs) H')=bn at hb
 split at hb
 case h_2=>simp at hb
 rename_i H2 d' ns2 hpk2'
 have hpk2:=packE_spec hpk2'
 clear hpk2'
 have hbt:∀o c,(o,c)∈tops→(c,o)∈swapN tops++bn:=fun o c h=>List.mem_append_left _ ((swapN_mem tops c o).2 h)
 have hbm2:∀c m,(c,m)∈swapN tops++bn→(m,c)∈tops∨(c,m)∈bn:=fun c m h=>(List.mem_append.1 h).imp (swapN_mem tops c m).1 id
 generalize swapN tops++bn=bm at hb hpk2 hbt hbm2
 generalize hks:(fun k=>memNat (nests.map (·.1)) k)=ks at hb
 generalize hol:killH ks (dropA (fun k=>memNat ((tops++nests).map (·.1)) k) (freeze hs ns))=old at hb
 cases hfr0:(bm.all fun x=>(look old x.2).isNone)&&bn.all fun x=>Nat.ble 100000 x.2 with
 | false=>rw [hfr0] at hb;simp at hb
 | true =>
 rw [hfr0] at hb
 simp only [cond_true,Option.some.injEq] at hb
 subst hb
 rw [Bool.and_eq_true] at hfr0
 obtain ⟨hfr,hbn⟩:=hfr0
 obtain ⟨hS1,hle1⟩:=sim_freeze hX hS ns
 have hold:∀k x,look old k=some x→k ∉ (tops++nests).map (·.1)∧∃y,look (freeze hs ns) k=some y∧x=killOb ks y:=by
  intro k x h
  rw [←hol,look_killH,look_dropA] at h
  cases hm:memNat ((tops++nests).map (·.1)) k with
  | true=>rw [hm] at h;simp at h
  | false =>
   rw [hm] at h
   simp only [Bool.false_eq_true,if_false] at h
   obtain ⟨y,hy,rfl⟩:=Option.map_eq_some_iff.1 h
   exact ⟨fun h=>by rw [(memNat_iff _ _).2 h] at hm;simp at hm,y,hy,rfl⟩
 have hold':∀k y,k ∉ (tops++nests).map (·.1)→look (freeze hs ns) k=some y→look old k=some (killOb ks y):=by
  intro k y hk hy
  have hm:memNat ((tops++nests).map (·.1)) k=false:=by
   cases hm:memNat ((tops++nests).map (·.1)) k with
   | true=>exact absurd ((memNat_iff _ _).1 hm) hk
   | false=>rfl
  rw [←hol,look_killH,look_dropA,hm]
  simp [hy]
 have hfresh:∀c m,(c,m)∈bm→look old m=none:=by
  intro c m h
  have:=List.all_eq_true.1 hfr _ h
  simpa using this
 have hunf:∀k y,look (freeze hs ns) k=some y→y.fz=false→k ∉ ns∧look hs k=some y:=by
  intro k y hy hf
  rw [look_freeze] at hy
  by_cases hk:k∈ns
  ·rw [if_pos hk] at hy
   obtain ⟨z,_,rfl⟩:=Option.map_eq_some_iff.1 hy
   rw [freezeOb_fz] at hf;simp at hf
  ·rw [if_neg hk] at hy;exact ⟨hk,hy⟩
 generalize hrho3:(fun m=>match nmOf (swapN bm) m with
  | some c=>rho' c
  | none=>g.rho m)=rho3
 have hr1:∀c m,(c,m)∈bm→rho3 m=rho' c:=by
  intro c m h
  rw [←hrho3]
  simp only [inv_mem hpk2.d2 h]
 have hr2:∀m x,look old m=some x→rho3 m=g.rho m:=by
  intro m x h
  rw [←hrho3]
  simp only
  cases hn:nmOf (swapN bm) m with
  | none=>rfl
  | some c =>
   have:=hfresh c m ((swapN_mem bm m c).1 (nmOf_mem _ _ _ hn))
   rw [h] at this;simp at this
 have hl1:∀m x,look H2 m=some x→look (H2++old) m=some x:=by
  intro m x h
  rw [look_append,h]
 have hl2:∀m x,look (H2++old) m=some x→look H2 m=some x∨look old m=some x:=by
  intro m x h
  rw [look_append] at h
  cases hh:look H2 m with
  | some y=>rw [hh] at h;exact .inl h
  | none=>rw [hh] at h;exact .inr h
 have hl3:∀m x,look old m=some x→look (H2++old) m=some x:=by
  intro m x h
  rw [look_append]
  cases hh:look H2 m with
  | none=>exact h
  | some y =>
   obtain ⟨c,_,_,h1,_⟩:=hpk2.ex m y hh
   rw [hfresh c m h1] at h;simp at h
 have hsrc2:∀m x,look H2 m=some x→∃c ob' n1,(c,m)∈bm∧look H' c=some ob'∧packOb X.C H' bm ob'=some (x,n1)∧(∀y∈n1,y∈ns2)∧rho3 m=rho' c:=by
  intro m x h
  obtain ⟨c,ob',n1,h1,h2,h3,h4⟩:=hpk2.ex m x h
  exact ⟨c,ob',n1,h1,h2,h3,h4,hr1 c m h1⟩
 have hlav:∀b,lentB g hs (tops++nests) b→(cxOf g (freeze hs ns) w).av b:=by
  rintro b ⟨o,c,ob,h1,h2,h3⟩
  obtain ⟨ob',x,n1,k1,_,k3,_⟩:=hpk.im o c h1
  rw [h2] at k1
  simp only [Option.some.injEq] at k1
  subst k1
  refine .inr ⟨o,ob,?_,(packOb_kind k3).1,h3⟩
  rw [look_freeze,if_neg (fun h=>nmOf_none (hpk.ro o h) h1)]
  exact h2
 have hav3:∀b,(cxOf { g with rho:=rho3 } (H2++old) w':Cx α).av b→avBut g hs w (ns++(tops++nests).map (·.1)) b∨∃c m ob',(c,m)∈bm∧look H' c=some ob'∧rho' c=some b:=by
  rintro b (h0 | ⟨m,x,hl,hf,hrm⟩)
  ·exact .inl ⟨.inl h0,fun o ob _ hlo hro=>hS.not0 hlo hro h0⟩
  ·have hrm:rho3 m=some b:=hrm
   rcases hl2 m x hl with hl | hl
   ·obtain ⟨c,ob',_,h1,h2,_,_,h5⟩:=hsrc2 m x hl
    exact .inr ⟨c,m,ob',h1,h2,by rw [←h5];exact hrm⟩
   ·obtain ⟨hm,y,hy,rfl⟩:=hold m x hl
    rw [killOb_fz] at hf
    obtain ⟨hmn,hy'⟩:=hunf m y hy hf
    rw [hr2 m _ hl] at hrm
    refine .inl ⟨.inr ⟨m,y,hy',hf,hrm⟩,fun o ob ho hlo hro=>?_⟩
    obtain rfl:=hS.inj m o y ob b hy' hlo hrm hro
    rcases List.mem_append.1 ho with h | h
    ·exact hmn h
    ·exact hm h
 have hcell:∀(b:Nat) ob,¬ (cxOf g (freeze hs ns) w:Cx α).av b→w.heap[b]?=some ob→w'.heap[b]?=some ob:=by
  intro b ob hav hh
  have:b < w.heap.size:=lt_of_heap hh
  rw [hS'.below.block b this (fun h=>hav (hlav b h))]
  exact hh
 have hle:CxLe X.C ks (cxOf g (freeze hs ns) w) (cxOf { g with rho:=rho3 } (H2++old) w'):=by
  refine ⟨fun b ob hav hh=>hcell b ob hav hh,fun b ob hh hav hv=>?_,fun o b hk ho=>?_,fun o b p hk ho=>?_,fun b cells T fz hh=>?_⟩
  ·rcases hav3 b hv with h | ⟨c,m,ob',h1,h2,h3⟩
   ·rcases h.1 with h0 | ⟨o,x,hlo,hf,hro⟩
    ·exact hav (.inl h0)
    ·refine hav (.inr ⟨o,x,?_,hf,hro⟩)
     rw [look_freeze,if_neg (fun hn=>h.2 o x (List.mem_append_left _ hn) hlo hro)]
     exact hlo
   ·have hlt:b < w.heap.size:=lt_of_heap hh
    rcases (hS'.own c ob' b h2 h3).1 with h | h
    ·exact absurd hlt (Nat.not_lt.2 h)
    ·exact hav (hlav b h)
  ·
   cases hlo:look (freeze hs ns) o with
   | none=>simp [cxOf,hlo] at ho
   | some y =>
    by_cases hs':o∈(tops++nests).map (·.1)
    ·obtain ⟨⟨o',c⟩,hoc,rfl⟩:=List.mem_map.1 hs'
     have hot:(o',c)∈tops:=by
      rcases List.mem_append.1 hoc with h | h
      ·exact h
      ·rw [←hks] at hk
       simp only at hk
       rw [(memNat_iff _ _).2 (List.mem_map.2 ⟨_,h,rfl⟩)] at hk
       simp at hk
     obtain ⟨hc,ob,hob,hna⟩:=topNm_lt htop hot
     obtain ⟨ob1,x1,n1,k1,k2,k3,_⟩:=hpk.im o' c hoc
     rw [hob] at k1
     simp only [Option.some.injEq] at k1
     subst k1
     obtain ⟨q1,ob',q2,q3⟩:=hkept c x1 hc k2
     rw [rhoP_mem hpk.d2 hoc] at q1
     have hbm:=hbt o' c hot
     obtain ⟨ob2,x2,n2,r1,r2,r3,_⟩:=hpk2.im c o' hbm
     rw [q2] at r1
     simp only [Option.some.injEq] at r1
     subst r1
     have hlf:look (freeze hs ns) o'=some ob:=by
      rw [look_freeze,if_neg (fun h=>nmOf_none (hpk.ro o' h) hoc)]
      exact hob
     obtain ⟨-,-,s2⟩:=packOb_kind r3
     rw [bx_bm hlf hna] at ho
     rw [bx_bm (hl1 o' x2 r2) (bm_kind s2 q3)]
     exact (hr1 c o' hbm).trans (q1.trans ho)
    ·have h1:=hold' o y hs' hlo
     simp only [cxOf,hlo] at ho
     simp only [cxOf,hl3 o _ h1,hr2 o _ h1]
     cases y<;>first | exact ho | simp at ho
  ·cases hlo:look (freeze hs ns) o with
   | none=>simp [cxOf,hlo] at ho
   | some y =>
    by_cases hs':o∈(tops++nests).map (·.1)
    ·obtain ⟨⟨o',c⟩,hoc,rfl⟩:=List.mem_map.1 hs'
     have hot:(o',c)∈tops:=by
      rcases List.mem_append.1 hoc with h | h
      ·exact h
      ·rw [←hks] at hk
       simp only at hk
       rw [(memNat_iff _ _).2 (List.mem_map.2 ⟨_,h,rfl⟩)] at hk
       simp at hk
     obtain ⟨hc,ob,hob,hna⟩:=topNm_lt htop hot
     have hlf:look (freeze hs ns) o'=some ob:=by
      rw [look_freeze,if_neg (fun h=>nmOf_none (hpk.ro o' h) hoc)]
      exact hob
     simp only [cxOf,hlf] at ho
     cases ob with
     | box f cs=>simp at ho
     | map f q=>simp at ho
     | arr f q=>exact absurd rfl (hna f q)
    ·have h1:=hold' o y hs' hlo
     simp only [cxOf,hlo] at ho
     simp only [cxOf,hl3 o _ h1,hr2 o _ h1]
     cases y with
     | box f cs=>simp at ho
     | map f q=>simp at ho
     | arr f q=>exact ⟨p,by simpa [killOb] using ho,rfl,rfl⟩
  ·have hlt:b < w.heap.size:=lt_of_heap hh
   exact hS'.below.row b cells T fz hlt hh
 have hP:PackTo { ghC g hs w (tops++nests) ns with rho:=rho' } H' w' bm ns2 (cxOf { g with rho:=rho3 } (H2++old) w'):=packTo_of hpk2 _ _ hr1 hl1
  (fun b hv=>by
   rcases hav3 b hv with h | ⟨c,m,ob',h1,h2,h3⟩
   ·exact .inl h
   ·exact .inr ⟨c,ob',h2,hfz c ob' h2,h3⟩)
  (fun o ob b ho hlo hro hv=>by
   rcases hav3 b hv with h | ⟨c,m,ob',h1,h2,h3⟩
   ·exact hS'.not0 hlo hro h
   ·obtain rfl:=hS'.inj o c ob ob' b hlo h2 hro h3
    exact nmOf_none (hpk2.ro o ho) h1)
 refine ⟨rho3,⟨by simpa using hS.size,fun t=>?_,hS.dfr,fun m x hm=>?_,fun m m' x x' b hm hm' hrm hrm'=>?_,fun m x b hm hrm=>?_,?_,hS.av0,hS.lav,fun c b hc=>⟨(hS.top c b hc).1,(hS.top c b hc).2.1,fun x hx=>?_⟩,hS.glob⟩,?_⟩
 ·rw [getT_map _ (by simp [kill])]
  exact RG.kill hX.pay hle (hS1.tm t)
 ·rcases hl2 m x hm with hm | hm
  ·obtain ⟨c,ob',n1,h1,h2,h3,h4,h5⟩:=hsrc2 m x hm
   show ObRel X.C _ (rho3 m) x
   rw [h5]
   exact packOb_sound hX' hS' hP (hS'.obs c ob' h2) h3 h4
  ·obtain ⟨hms,y,hy,rfl⟩:=hold m x hm
   show ObRel X.C _ (rho3 m) _
   rw [hr2 m _ hm]
   refine ObRel.grow hX.pay hle (fun b' ob' hb' hh=>?_) (hS1.obs m y hy)
   have hlt:b' < w.heap.size:=lt_of_heap hh
   show w'.heap[b']?=_
   rw [hS'.below.block b' hlt (fun h=>?_)]
   ·exact hh
   ·obtain ⟨o,c,ob,h1,h2,h3⟩:=h
    have hlf:look (freeze hs ns) o=some ob:=by
     rw [look_freeze,if_neg (fun h=>nmOf_none (hpk.ro o h) h1)]
     exact h2
    obtain rfl:=hS1.inj m o y ob b' hy hlf hb' h3
    exact hms (List.mem_map.2 ⟨_,h1,rfl⟩)
 ·have hrm:rho3 m=some b:=hrm
  have hrm':rho3 m'=some b:=hrm'
  have cross:∀m m' x x',look H2 m=some x→look old m'=some x'→rho3 m=some b→rho3 m'=some b→False:=by
   intro m m' x x' hm hm' hrm hrm'
   obtain ⟨c,ob',n1,h1,h2,h3,h4,h5⟩:=hsrc2 m x hm
   obtain ⟨hms,y,hy,rfl⟩:=hold m' x' hm'
   rw [hr2 m' _ hm'] at hrm'
   rw [h5] at hrm
   rcases (hS'.own c ob' b h2 hrm).1 with h | h
   ·have h:w.heap.size≤b:=h
    have:=(hS1.own m' y b hy hrm').2
    omega
   ·obtain ⟨o,c,ob,k1,k2,k3⟩:=h
    have hlf:look (freeze hs ns) o=some ob:=by
     rw [look_freeze,if_neg (fun h=>nmOf_none (hpk.ro o h) k1)]
     exact k2
    obtain rfl:=hS1.inj m' o y ob b hy hlf hrm' k3
    exact hms (List.mem_map.2 ⟨_,k1,rfl⟩)
  rcases hl2 m x hm with hm | hm<;>rcases hl2 m' x' hm' with hm' | hm'
  ·obtain ⟨c,ob',n1,h1,h2,h3,h4,h5⟩:=hsrc2 m x hm
   obtain ⟨c',ob'',n1',h1',h2',h3',h4',h5'⟩:=hsrc2 m' x' hm'
   rw [h5] at hrm
   rw [h5'] at hrm'
   obtain rfl:=hS'.inj c c' ob' ob'' b h2 h2' hrm hrm'
   exact uniq1 hpk2.d1 h1 h1'
  ·exact (cross m m' x x' hm hm' hrm hrm').elim
  ·exact (cross m' m x' x hm' hm hrm' hrm).elim
  ·obtain ⟨_,y,hy,rfl⟩:=hold m x hm
   obtain ⟨_,y',hy',rfl⟩:=hold m' x' hm'
   rw [hr2 m _ hm] at hrm
   rw [hr2 m' _ hm'] at hrm'
   exact hS1.inj m m' y y' b hy hy' hrm hrm'
 ·have hrm:rho3 m=some b:=hrm
  rcases hl2 m x hm with hm | hm
  ·obtain ⟨c,ob',n1,h1,h2,h3,h4,h5⟩:=hsrc2 m x hm
   rw [h5] at hrm
   have h6:=hS'.own c ob' b h2 hrm
   refine ⟨?_,h6.2⟩
   rcases h6.1 with h | h
   ·exact .inl (Nat.le_trans hS.below.size h)
   ·obtain ⟨o,c,ob,k1,k2,k3⟩:=h
    exact (hS.own o ob b k2 k3).1
  ·obtain ⟨_,y,hy,rfl⟩:=hold m x hm
   rw [hr2 m _ hm] at hrm
   have h6:=hS1.own m y b hy hrm
   exact ⟨h6.1,Nat.lt_of_lt_of_le h6.2 hS'.below.size⟩
 ·have hsz:=hS.below.size
  refine hS.below.trans ⟨hS'.below.os,hS'.below.tape,hS'.below.output,hS'.below.size,fun k hk hL=>hS'.below.block k (Nat.lt_of_lt_of_le hk hsz) (fun h=>?_),fun k cells T fz hk hc=>hS'.below.row k cells T fz (Nat.lt_of_lt_of_le hk hsz) hc,hS'.below.drawn⟩
  obtain ⟨o,c,ob,k1,k2,k3⟩:=h
  rcases (hS.own o ob k k2 k3).1 with h | h
  ·have h:g.w0.heap.size≤k:=h
   have hk:k < g.w0.heap.size:=hk
   omega
  ·exact hL h
 ·obtain ⟨t1,t2,t3⟩:=hS.top c b hc
  rcases hl2 c x hx with hx | hx
  ·obtain ⟨c',ob',n1,h1,h2,h3,h4,h5⟩:=hsrc2 c x hx
   rcases hbm2 c' c h1 with h | h
   ·obtain ⟨hlt,ob,hob,hna⟩:=topNm_lt htop h
    have hoc:(c,c')∈tops++nests:=List.mem_append_left _ h
    obtain ⟨ob1,x1,n2,k1,k2,k3,_⟩:=hpk.im c c' hoc
    obtain ⟨q1,ob2,q2,q3⟩:=hkept c' x1 hlt k2
    rw [rhoP_mem hpk.d2 hoc] at q1
    rw [h2] at q2
    simp only [Option.some.injEq] at q2
    subst q2
    obtain ⟨-,-,s2⟩:=packOb_kind h3
    exact ⟨h5.trans (q1.trans (t3 ob hob).1),bm_kind s2 q3⟩
   ·have h6:=List.all_eq_true.1 hbn _ h
    have h6:=Nat.le_of_ble_eq_true h6
    have h7:=Nat.le_of_ble_eq_true t2
    simp only at h6
    omega
  ·obtain ⟨_,y,hy,rfl⟩:=hold c x hx
   obtain ⟨k1,k2⟩:=(hS1.top c b hc).2.2 y hy
   refine ⟨(hr2 c _ hx).trans k1,bm_kind (sameKind_kill ks y) k2⟩
 ·obtain ⟨ms,hms,hmn⟩:=hpk2.args
  exact (packAll_sound hX' hS' hP [d] [d'] ms hms hmn).2 0 v d d' rfl rfl hr
include hX hS in
theorem callMD_sound (hR:ROk X) (f:FuncId) (args:List (D α)) (vs:Array Value) (hsz:vs.size=args.length)
  (hr:∀(i:Nat) v c,vs[i]?=some v→args[i]?=some c→RD X.C (cxOf g hs w) v c) (r:Res α) (hc:callMD X hs tm f args=r) (hok:r.ok=true) :
  CallOk X.P f vs w fun v w'=>OpOut X g tm hs a r v w':=by
 unfold callMD at hc
 split at hc
 case h_2=>subst hc;simp [Res.no] at hok
 rename_i tops nests H ds ns hcm
 unfold callM at hcm
 simp only at hcm
 split at hcm
 case h_2=>simp at hcm
 rename_i H0 ds0 ns0 hpk'
 cases htop:(topNm 0 (boxesOf hs 64 (namesL args) [])).all (topOk hs) with
 | false=>rw [htop] at hcm;simp at hcm
 | true =>
 rw [htop] at hcm
 simp only [cond_true,Option.some.injEq,Prod.mk.injEq] at hcm
 obtain ⟨rfl,rfl,rfl,rfl,rfl⟩:=hcm
 have hpk:=packE_spec hpk'
 split at hc
 case h_2=>subst hc;simp [Res.no] at hok
 rename_i b os d hRf
 split at hc
 case h_2=>subst hc;simp [Res.no] at hok
 rename_i tm' hs' d' hch
 subst hc
 have hok:b=true:=hok
 have hge:Nat.blt (f+1000000) 1000000=false:=by
  cases hb:Nat.blt (f+1000000) 1000000 with
  | false=>rfl
  | true =>
   have:=Nat.le_of_ble_eq_true hb
   omega
 have hM:=(hR _ _ _ _ hRf hok).2 hge _ _ _ _ _ rfl rfl
 rw [Nat.add_sub_cancel,dec_enc _ hpk.fz] at hM
 obtain ⟨hE,hP⟩:=enter_env hX hS hpk
 obtain ⟨ms,hms,hmn⟩:=hpk.args
 obtain ⟨hlen,hget⟩:=packAll_sound hX hS hP args ds0 ms hms hmn
 have h1:=hM (ghC g hs w _ ns0) vs (fun _=>rfl) hE (by rw [hsz,hlen]) (fun i v c hv hc'=>by
  have hi:i < args.length:=by
   rw [←hlen];rcases Nat.lt_or_ge i ds0.length with h | h
   ·exact h
   ·simp [List.getElem?_eq_none h] at hc'
  have hc0:args[i]?=some args[i]:=by simp [hi]
  exact hget i v _ c hc0 hc' (hr i v _ hv hc0))
 rcases h1 with ⟨h2,h3⟩ | ⟨v,w',h2,rho',q1,q2,q3⟩
 ·exact .inl ⟨h2,h3.mono fun e w' ⟨v,he,rho',q1,q2,q3⟩=>⟨v,he,back_sound hX hS hpk htop (decH_fz os) q1 q3 hch q2⟩⟩
 ·exact .inr ⟨v,w',h2,back_sound hX hS hpk htop (decH_fz os) q1 q3 hch q2⟩
include hX hS in
theorem callD_sound (hR:ROk X) (f:FuncId) (args:List (D α)) (vs:Array Value) (hsz:vs.size=args.length)
  (hr:∀(i:Nat) v c,vs[i]?=some v→args[i]?=some c→RD X.C (cxOf g hs w) v c) (dst:Option Nat) (r:Res α) (hc:callD X hs tm dst f args=r) (hok:r.ok=true) :
  CallOk X.P f vs w fun v w'=>OpOut X g tm hs a r v w':=by
 cases hm:mOf X f with
 | false=>exact callP_sound hX hS hR f args vs hsz hr dst r hm hc hok
 | true =>
  unfold callD at hc
  rw [hm] at hc
  exact callMD_sound hX hS hR f args vs hsz hr r hc hok
end
end Go.Eng
