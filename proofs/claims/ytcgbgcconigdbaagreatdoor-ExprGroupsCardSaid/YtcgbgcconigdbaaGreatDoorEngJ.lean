/-
 THE ENGINE, PART J: OBJECTS MADE, TURNED, LET GO.
-/
import Derived.Test.YtcgbgcconigdbaaGreatDoorEngG
namespace Go.Eng
open Go.RowKit
variable {α:Type}
mutual
theorem RD_flat {C:Pay α} {cx cx':Cx α}:∀(d:D α) (v:Value),flat d=true→RD C cx v d→RD C cx' v d
 | .bool _,_,_,h=>by cases h;exact .bool _
 | .int _ _,_,_,h=>by cases h with | int _ _ h=>exact .int _ _ h
 | .str _,_,_,h=>by cases h with | str _ _ h hl=>exact .str _ _ h hl
 | .nilP,_,_,h=>by cases h;exact .nilP
 | .nilS,_,_,h=>by cases h;exact .nilS
 | .nilF,_,_,h=>by cases h;exact .nilF
 | .nilI,_,_,h=>by cases h;exact .nilI
 | .nilM,_,_,h=>by cases h;exact .nilM
 | .lit _,_,_,h=>by cases h;exact .lit _
 | .agg cs,_,hf,h=>by
  cases h with | agg vs _ hs h1 hr =>
  exact .agg vs cs hs h1 fun i v c hv hc=>RD_flatL cs (by simpa [flat] using hf) i v c hc (hr i v c hv hc)
 | .tup cs,_,hf,h=>by
  cases h with | tup vs _ hs hr =>
  exact .tup vs cs hs fun i v c hv hc=>RD_flatL cs (by simpa [flat] using hf) i v c hc (hr i v c hv hc)
 | .pl _ _,_,hf,_ | .mp _,_,hf,_ | .mr _,_,hf,_ | .arr _,_,hf,_ | .ptr _ _,_,hf,_ | .epr _ _ _,_,hf,_ | .ref _,_,hf,_ | .fn _ _,_,hf,_ | .ifc _ _,_,hf,_ | .gd _ _ _,_,hf,_ | .ow _ _,_,hf,_ | .ifa,_,hf,_ | .num,_,hf,_ | .mref _ _,_,hf,_ | .bad,_,hf,_ | .obB _ _,_,hf,_ | .obA _ _,_,hf,_ | .obM _ _,_,hf,_ | .env _ _,_,hf,_=>by simp [flat] at hf
theorem RD_flatL {C:Pay α} {cx cx':Cx α}:∀(cs:List (D α)),flatL cs=true→∀(i:Nat) v c,cs[i]?=some c→RD C cx v c→RD C cx' v c
 | [],_,_,_,_,h,_=>by simp at h
 | d::r,hf,0,v,c,hc,h=>by
  simp only [flatL,Bool.and_eq_true] at hf
  simp only [List.getElem?_cons_zero,Option.some.injEq] at hc
  subst hc
  exact RD_flat _ v hf.1 h
 | d::r,hf,i+1,v,c,hc,h=>by
  simp only [flatL,Bool.and_eq_true] at hf
  exact RD_flatL r hf.2 i v c (by simpa using hc) h
end
theorem closed_of_not {y:D α} (h1:∀o,y=.arr o→False) (h2:∀o k,y=.ptr o k→False) (h3:∀o i k,y=.epr o i k→False) (h4:∀cs,y=.agg cs→False) (h5:∀cs,y=.tup cs→False)
  (h6:∀cs,y=.ref cs→False) (h7:∀f cs,y=.fn f cs→False) (h8:∀t d,y=.ifc t d→False) (h9:∀ks t d,y=.gd ks t d→False) (h10:∀k d,y=.ow k d→False) (h11:∀o,y=.mp o→False):closed y=true:=by
 cases y<;>first | rfl | (exfalso;solve | exact h1 _ rfl | exact h2 _ _ rfl | exact h3 _ _ _ rfl | exact h4 _ rfl | exact h5 _ rfl | exact h6 _ rfl | exact h7 _ _ rfl | exact h8 _ _ rfl | exact h9 _ _ _ rfl | exact h10 _ _ rfl | exact h11 _ rfl)
section
variable {X:Ctx α} (hX:XOk X) {g:Gh} {tm:List (D α)} {hs:Obs α} {a:Act} {w:World} (hS:Sim X g tm hs a w)
theorem cxLe_out {C:Pay α} {g:Gh} {hs:Obs α} {w:World} {av':Nat→Prop} (hav:∀b,av' b→(cxOf g hs w).av b):CxLe C (fun _=>true) (cxOf g hs w) (cx0 w av':Cx α) where
 cell:=fun _ _ _ h=>h
 av:=fun b _ _ h h'=>h (hav b h')
 bx:=fun _ _ h=>by simp at h
 ar:=fun _ _ _ h=>by simp at h
 size:=fun _ cells T fz h=>⟨cells,T,fz,h,rfl⟩
include hX hS in
theorem lend_sound (av':Nat→Prop) (hav:∀b,av' b→(cxOf g hs w).av b):∀(n:Nat),
  (∀(d:D α) (v:Value) d' ns,RD X.C (cxOf g hs w) v d→lend X.C hs n d=some (d',ns)→(∀o ob b,o∈ns→look hs o=some ob→g.rho o=some b→¬ av' b)→RD X.C (cx0 w av') v d') ∧
  (∀(l:List (D α)) l' ns,lend.lendL X.C hs n l=some (l',ns)→(∀o ob b,o∈ns→look hs o=some ob→g.rho o=some b→¬ av' b)→l'.length=l.length ∧
   ∀(i:Nat) v c c',l[i]?=some c→l'[i]?=some c'→RD X.C (cxOf g hs w) v c→RD X.C (cx0 w av') v c'):=by
 intro n
 induction n with
 | zero =>
  refine ⟨fun d v d' ns _ h=>by simp [lend] at h,fun l l' ns h _=>?_⟩
  cases l with
  | nil=>simp only [lend.lendL,Option.some.injEq,Prod.mk.injEq] at h;obtain ⟨rfl,rfl⟩:=h;exact ⟨rfl,fun i v c c' hc=>by simp at hc⟩
  | cons d r=>simp [lend.lendL] at h
 | succ n ih =>
  obtain ⟨ih1,ih2⟩:=ih
  refine ⟨fun d v d' ns hd h hns=>?_,fun l l' ns h hns=>?_⟩
  ·unfold lend at h
   split at h
   ·omega
   ·rename_i o heq
    split at h
    ·rename_i fz p hl
     simp only [Option.some.injEq,Prod.mk.injEq] at h
     obtain ⟨rfl,rfl⟩:=h
     have har:=arr_of (g:=g) (w:=w) hl
     have hob:=hS.obs o _ hl
     cases hd with
     | arrO _ b p' n' c ho hn hc hz =>
      rw [har] at ho
      simp only [Option.some.injEq,Prod.mk.injEq] at ho
      obtain ⟨hrho,rfl⟩:=ho
      rw [hrho] at hob
      obtain ⟨cells,T,hh,hsz,hbg,h1,hr⟩:=hob
      subst hn
      have hlt:∀i j d,i < X.C.len p→(X.C.elem p i)[j]?=some d→i * X.C.esz p+j < cells.size:=by
       intro i j d hi hj
       have hj':j < X.C.esz p:=by
        rw [←hX.pay.elen p i hi];rcases Nat.lt_or_ge j (X.C.elem p i).length with h | h
        ·exact h
        ·simp [List.getElem?_eq_none h] at hj
       have:(i+1) * X.C.esz p≤X.C.len p * X.C.esz p:=Nat.mul_le_mul_right _ hi
       rw [Nat.add_mul] at this;omega
      refine .pl b 0 _ c p .any (fun i j=>(cells[i * X.C.esz p+j]?).getD undef) rfl hc hbg trivial (hns o _ b List.mem_cons_self hl hrho) (fun i j d hi hj=>?_) (fun i j d hi hj=>?_) (fun i j d hi hj=>?_) True.intro (fun _=>⟨Nat.zero_mod _,cells,T,hh⟩)
      ·have:=hlt i j d hi hj
       show w.cell? _=_
       rw [Nat.zero_add,cell_at (w:=w) hh]
       simp [this]
      ·have:=hlt i j d hi hj
       simp only [this,getElem?_pos,Option.getD_some]
       exact h1 _ _ (Array.getElem?_eq_getElem this)
      ·have:=hlt i j d hi hj
       simp only [this,getElem?_pos,Option.getD_some]
       exact RD.closedTo hX.pay (cxLe_out hav) (hX.pay.clo p i d (List.mem_of_getElem? hj)) (hr i j _ d hi (Array.getElem?_eq_getElem this) hj)
     | arrN _ p' a' ho hn =>
      rw [har] at ho
      simp only [Option.some.injEq,Prod.mk.injEq] at ho
      obtain ⟨hrho,rfl⟩:=ho
      exact .pl0 _ _ _ _ hn trivial
    ·simp at h
   ·rename_i n' o off heq
    obtain rfl:n=n':=by simpa using heq
    split at h
    ·rename_i fz cs hl
     split at h
     ·rename_i l ms hll
      simp only [Option.some.injEq,Prod.mk.injEq] at h
      obtain ⟨rfl,rfl⟩:=h
      obtain ⟨b,o',hv,hat⟩:=cellsAt_sound hX hS hd (show cellsAt X.C hs (.ptr o off)=some (cs,off) by simp [cellsAt,hl])
      subst hv
      obtain ⟨hlen,hget⟩:=ih2 _ _ _ hll (fun o' x' b' ho'=>hns o' x' b' (List.mem_cons_of_mem _ ho'))
      have hex:∀(i:Nat) c',l[i]?=some c'→∃u,w.cell? ⟨b,o'+i,none⟩=some u∧u.oneCell'=true∧RD X.C (cx0 w av') u c':=by
       intro i c' hc'
       have hi:i < (cs.drop off).length:=by
        rw [←hlen];rcases Nat.lt_or_ge i l.length with h | h
        ·exact h
        ·simp [List.getElem?_eq_none h] at hc'
       have hc:(cs.drop off)[i]?=some ((cs.drop off)[i]):=by simp
       obtain ⟨u,h1,h2,h3⟩:=hat i _ (by rw [←List.getElem?_drop];exact hc)
       exact ⟨u,h1,h2,hget i u _ c' hc hc' h3⟩
      have hbo:g.rho o=some b:=by
       cases hd with | ptr _ _ _ ho=>simpa [cxOf,hl] using ho
      refine .ref b o' l (fun i=>(w.cell? ⟨b,o'+i,none⟩).getD undef) (fun _=>hns o _ b List.mem_cons_self hl hbo) (fun i c hc=>?_) (fun i c hc=>?_) (fun i c hc=>?_)
      all_goals obtain ⟨u,h1,h2,h3⟩:=hex i c hc
      ·show w.cell? _=_;rw [h1];rfl
      ·rw [h1];exact h2
      ·rw [h1];exact h3
     ·simp at h
    ·simp at h
   ·rename_i o i off heq
    split at h
    ·rename_i fz p hl
     simp only [Option.some.injEq,Prod.mk.injEq] at h
     obtain ⟨rfl,rfl⟩:=h
     obtain ⟨b,o',hv,hat⟩:=cellsAt_sound hX hS hd (show cellsAt X.C hs (.epr o i off)=some (X.C.elem p i,off) by simp [cellsAt,hl])
     subst hv
     have hbo:g.rho o=some b∧i < X.C.len p:=by
      cases hd with | epr _ _ _ _ p' ho hi =>
      rw [arr_of (g:=g) (w:=w) hl] at ho
      simp only [Option.some.injEq,Prod.mk.injEq] at ho
      obtain ⟨h1,rfl⟩:=ho
      exact ⟨h1,hi⟩
     refine .ref b o' _ (fun i=>(w.cell? ⟨b,o'+i,none⟩).getD undef) (fun _=>hns o _ b List.mem_cons_self hl hbo.1) (fun j c hc=>?_) (fun j c hc=>?_) (fun j c hc=>?_)
     all_goals
      rw [List.getElem?_drop] at hc
      obtain ⟨u,h1,h2,h3⟩:=hat j c hc
      have h1:w.cell? _=some u:=h1
     ·show w.cell? _=_;rw [h1];rfl
     ·rw [h1];exact h2
     ·rw [h1];exact RD.closedTo hX.pay (cxLe_out hav) (hX.pay.clo p i c (List.mem_of_getElem? hc)) h3
    ·simp at h
   ·rename_i n' o heq
    split at h
    ·rename_i fz p hl
     simp only [Option.some.injEq,Prod.mk.injEq] at h
     obtain ⟨rfl,rfl⟩:=h
     cases hd with | mp _ b ho =>
     have hrho:g.rho o=some b:=by simpa [cxOf,hl] using ho
     obtain ⟨b',es,clock,hb',hh,hsz,hdd,hk,hv⟩:=hS.obs o _ hl
     rw [hrho] at hb'
     simp only [Option.some.injEq] at hb'
     subst hb'
     have hlt:∀(i:Nat) e,es[i]?=some e→i < X.C.len p:=by
      intro i e he
      rw [←hsz.size]
      rcases Nat.lt_or_ge i es.size with h | h
      ·exact h
      ·simp [Array.getElem?_eq_none h] at he
     exact .mr b clock es p (hns o _ b List.mem_cons_self hl hrho) hh hsz hdd (fun i e he=>RD.closedTo hX.pay (cxLe_out hav) (hX.pay.mkclo p i (hlt i e he)) (hk i e he))
      fun i e he=>RD.closedTo hX.pay (cxLe_out hav) (hX.pay.mvclo p i (hlt i e he)) (hv i e he)
    ·simp at h
   ·rename_i n' cs heq
    obtain rfl:n=n':=by simpa using heq
    split at h
    ·rename_i l ms hll
     simp only [Option.some.injEq,Prod.mk.injEq] at h
     obtain ⟨rfl,rfl⟩:=h
     obtain ⟨hlen,hget⟩:=ih2 _ _ _ hll hns
     cases hd with | agg vs _ hs' h1 hr =>
     refine .agg vs l (by rw [hlen];exact hs') h1 fun i v c hv hc=>?_
     have hi:i < cs.length:=by rw [←hs'];rcases Nat.lt_or_ge i vs.size with h | h;exact h;simp [Array.getElem?_eq_none h] at hv
     have hc0:cs[i]?=some cs[i]:=by simp [hi]
     exact hget i v _ c hc0 hc (hr i v _ hv hc0)
    ·simp at h
   ·rename_i n' cs heq
    obtain rfl:n=n':=by simpa using heq
    split at h
    ·rename_i l ms hll
     simp only [Option.some.injEq,Prod.mk.injEq] at h
     obtain ⟨rfl,rfl⟩:=h
     obtain ⟨hlen,hget⟩:=ih2 _ _ _ hll hns
     cases hd with | tup vs _ hs' hr =>
     refine .tup vs l (by rw [hlen];exact hs') fun i v c hv hc=>?_
     have hi:i < cs.length:=by rw [←hs'];rcases Nat.lt_or_ge i vs.size with h | h;exact h;simp [Array.getElem?_eq_none h] at hv
     have hc0:cs[i]?=some cs[i]:=by simp [hi]
     exact hget i v _ c hc0 hc (hr i v _ hv hc0)
    ·simp at h
   ·rename_i n' cs heq
    obtain rfl:n=n':=by simpa using heq
    split at h
    ·rename_i l ms hll
     simp only [Option.some.injEq,Prod.mk.injEq] at h
     obtain ⟨rfl,rfl⟩:=h
     obtain ⟨hlen,hget⟩:=ih2 _ _ _ hll hns
     cases hd with | ref b off _ vs hv0 hcell h1 hr =>
     have hc0:∀(i:Nat) c,l[i]?=some c→∃c0,cs[i]?=some c0:=by
      intro i c hc
      have hi:i < cs.length:=by
       rw [←hlen];rcases Nat.lt_or_ge i l.length with h | h
       ·exact h
       ·simp [List.getElem?_eq_none h] at hc
      exact ⟨cs[i],by simp [hi]⟩
     refine .ref b off l vs (fun hne h'=>hv0 (fun e=>hne (by subst e;exact List.eq_nil_of_length_eq_zero (by simpa using hlen))) (hav b h')) (fun i c hc=>?_) (fun i c hc=>?_) fun i c hc=>?_
     all_goals obtain ⟨c0,hc0⟩:=hc0 i c hc
     ·exact hcell i c0 hc0
     ·exact h1 i c0 hc0
     ·exact hget i _ c0 c hc0 hc (hr i c0 hc0)
    ·simp at h
   ·rename_i n' f cs heq
    obtain rfl:n=n':=by simpa using heq
    split at h
    ·rename_i l ms hll
     simp only [Option.some.injEq,Prod.mk.injEq] at h
     obtain ⟨rfl,rfl⟩:=h
     obtain ⟨hlen,hget⟩:=ih2 _ _ _ hll hns
     cases hd with | fn _ f' va vb vs _ hs' hr hm =>
     refine .fn f f' va vb vs l (by rw [hlen];exact hs') (fun i v c hv hc=>?_) hm
     have hi:i < cs.length:=by rw [←hs'];rcases Nat.lt_or_ge i vs.size with h | h;exact h;simp [Array.getElem?_eq_none h] at hv
     have hc0:cs[i]?=some cs[i]:=by simp [hi]
     exact hget i v _ c hc0 hc (hr i v _ hv hc0)
    ·simp at h
   ·rename_i n' t d0 heq
    obtain rfl:n=n':=by simpa using heq
    split at h
    ·rename_i x ms hll
     simp only [Option.some.injEq,Prod.mk.injEq] at h
     obtain ⟨rfl,rfl⟩:=h
     cases hd with | ifc _ v' _ h' =>
     exact .ifc t v' x (ih1 _ _ _ _ h' hll hns)
    ·simp at h
   ·simp at h
   ·simp at h
   ·simp only [Option.some.injEq,Prod.mk.injEq] at h
    obtain ⟨rfl,rfl⟩:=h
    exact RD.closedTo hX.pay (cxLe_out hav) (closed_of_not (by assumption) (by assumption) (by assumption) (by assumption) (by assumption) (by assumption) (by assumption) (by assumption) (by assumption) (by assumption) (by assumption)) hd
  ·cases l with
   | nil=>simp only [lend.lendL,Option.some.injEq,Prod.mk.injEq] at h;obtain ⟨rfl,rfl⟩:=h;exact ⟨rfl,fun i v c c' hc=>by simp at hc⟩
   | cons d r =>
    simp only [lend.lendL] at h
    split at h
    ·rename_i x ms l0 ns0 h1 h2
     simp only [Option.some.injEq,Prod.mk.injEq] at h
     obtain ⟨rfl,rfl⟩:=h
     obtain ⟨hlen,hget⟩:=ih2 r l0 ns0 h2 (fun o x b ho=>hns o x b (List.mem_append_right _ ho))
     refine ⟨by simp [hlen],fun i v c c' hc hc' hv=>?_⟩
     cases i with
     | zero =>
      simp only [List.getElem?_cons_zero,Option.some.injEq] at hc hc'
      subst hc hc'
      exact ih1 _ v _ _ hv h1 (fun o x b ho=>hns o x b (List.mem_append_left _ ho))
     | succ i=>exact hget i v c c' (by simpa using hc) (by simpa using hc') hv
    ·simp at h
include hX hS in
theorem lendAll_sound (av':Nat→Prop) (hav:∀b,av' b→(cxOf g hs w).av b):∀(l:List (D α)) l' ns,lendAll X.C hs l=some (l',ns)→(∀o ob b,o∈ns→look hs o=some ob→g.rho o=some b→¬ av' b) →
  l'.length=l.length∧∀(i:Nat) v c c',l[i]?=some c→l'[i]?=some c'→RD X.C (cxOf g hs w) v c→RD X.C (cx0 w av') v c'
 | [],l',ns,h,_=>by simp only [lendAll,Option.some.injEq,Prod.mk.injEq] at h;obtain ⟨rfl,rfl⟩:=h;exact ⟨rfl,fun i v c c' hc=>by simp at hc⟩
 | d::r,l',ns,h,hns=>by
  simp only [lendAll] at h
  split at h
  ·rename_i x ms l0 ns0 h1 h2
   simp only [Option.some.injEq,Prod.mk.injEq] at h
   obtain ⟨rfl,rfl⟩:=h
   obtain ⟨hlen,hget⟩:=lendAll_sound av' hav r l0 ns0 h2 (fun o x b ho=>hns o x b (List.mem_append_right _ ho))
   refine ⟨by simp [hlen],fun i v c c' hc hc' hv=>?_⟩
   cases i with
   | zero =>
    simp only [List.getElem?_cons_zero,Option.some.injEq] at hc hc'
    subst hc hc'
    exact (lend_sound hX hS av' hav 40).1 _ v _ _ hv h1 (fun o x b ho=>hns o x b (List.mem_append_left _ ho))
   | succ i=>exact hget i v c c' (by simpa using hc) (by simpa using hc') hv
  ·simp at h
end
end Go.Eng
namespace Go.Eng
open Go.RowKit
variable {α:Type}
def RDcells (C:Pay α) (cx:Cx α) (vs:List Value) (cs:List (D α)):Prop :=
 vs.length=cs.length∧(∀(i:Nat) v,vs[i]?=some v→v.oneCell'=true)∧∀(i:Nat) v c,vs[i]?=some v→cs[i]?=some c→RD C cx v c
theorem RDcells.agg {C:Pay α} {cx:Cx α} {vs:Array Value} {cs:List (D α)} (h:RDcells C cx vs.toList cs):RD C cx (.agg vs) (.agg cs) :=
 .agg vs cs (by simpa using h.1) (fun i v hv=>h.2.1 i v (by simpa using hv)) (fun i v c hv hc=>h.2.2 i v c (by simpa using hv) hc)
theorem RDcells.of_agg {C:Pay α} {cx:Cx α} {vs:Array Value} {cs:List (D α)} (h:RD C cx (.agg vs) (.agg cs)):RDcells C cx vs.toList cs:=by
 cases h with | agg _ _ hs h1 hr =>
 exact ⟨by simpa using hs,fun i v hv=>h1 i v (by simpa using hv),fun i v c hv hc=>hr i v c (by simpa using hv) hc⟩
theorem oneCell_of_isOne {C:Pay α} {cx:Cx α} {v:Value} {d:D α} (h:RD C cx v d) (hd:isOne d=true):v.oneCell'=true:=by
 cases h<;>simp_all [isOne,Value.oneCell']
theorem cells_one {v:Value} (h:v.oneCell'=true):v.cells=#[v]:=by
 cases v<;>simp_all [Value.oneCell',Value.cells]
theorem RDcells.of_good {C:Pay α} {cx:Cx α} {v:Value} {d:D α} (h:RD C cx v d) (hd:fillD.isGood d=true):RDcells C cx v.cells.toList (cellsD d):=by
 by_cases ha:∃cs,d=.agg cs
 ·obtain ⟨cs,rfl⟩:=ha
  have h':=h
  cases h with | agg vs _ hs h1 hr =>
  exact RDcells.of_agg h'
 ·have h1:isOne d=true:=by cases d<;>simp_all [isOne,fillD.isGood]
  have h2:=oneCell_of_isOne h h1
  rw [cells_one h2]
  have h3:cellsD d=[d]:=by cases d<;>simp_all [cellsD]
  rw [h3]
  refine ⟨rfl,fun i v' hv=>?_,fun i v' c hv hc=>?_⟩
  ·cases i<;>simp at hv
   subst hv;exact h2
  ·cases i<;>simp at hv hc
   subst hv hc;exact h
def overV:List Value→Nat→List Value→List Value
 | vs,_,[]=>vs
 | vs,i,x::r=>overV (vs.set i x) (i+1) r
theorem setT_eq (tm:List (D α)) (i:Nat) (x:D α):setT tm i x=tm.set i x:=by
 induction tm generalizing i with
 | nil=>rfl
 | cons d r ih=>cases i<;>simp [setT,ih]
theorem RDcells.set {C:Pay α} {cx:Cx α} {vs:List Value} {cs:List (D α)} (h:RDcells C cx vs cs) (i:Nat) {v:Value} {d:D α} (hv:RD C cx v d) (h1:v.oneCell'=true) :
  RDcells C cx (vs.set i v) (setT cs i d):=by
 rw [setT_eq]
 refine ⟨by simp [h.1],fun k u hu=>?_,fun k u c hu hc=>?_⟩
 ·by_cases hik:i=k
  ·subst hik
   rw [List.getElem?_set_self'] at hu
   obtain ⟨_,_,rfl⟩:=Option.map_eq_some_iff.1 hu
   exact h1
  ·rw [List.getElem?_set_ne hik] at hu
   exact h.2.1 k u hu
 ·by_cases hik:i=k
  ·subst hik
   rw [List.getElem?_set_self'] at hu hc
   obtain ⟨_,_,rfl⟩:=Option.map_eq_some_iff.1 hu
   obtain ⟨_,_,rfl⟩:=Option.map_eq_some_iff.1 hc
   exact hv
  ·rw [List.getElem?_set_ne hik] at hu hc
   exact h.2.2 k u c hu hc
theorem RDcells.over {C:Pay α} {cx:Cx α}:∀(us:List Value) (ds:List (D α)) (vs:List Value) (cs:List (D α)) (i:Nat),RDcells C cx vs cs→RDcells C cx us ds →
  RDcells C cx (overV vs i us) (overL cs i ds)
 | [],[],vs,cs,i,h,_=>h
 | u::us,d::ds,vs,cs,i,h,hu=>by
  have h0:RD C cx u d:=hu.2.2 0 u d rfl rfl
  have h1:u.oneCell'=true:=hu.2.1 0 u rfl
  simp only [overV,overL]
  exact RDcells.over us ds _ _ (i+1) (h.set i h0 h1) ⟨by simpa using hu.1,fun k v hv=>hu.2.1 (k+1) v (by simpa using hv),fun k v c hv hc=>hu.2.2 (k+1) v c (by simpa using hv) (by simpa using hc)⟩
 | [],_::_,_,_,_,_,hu=>by simp [RDcells] at hu
 | _::_,[],_,_,_,_,hu=>by simp [RDcells] at hu
theorem overV_append (us:List Value):∀(vs:List Value) (i:Nat),i+us.length≤vs.length→overV vs i us=vs.take i++us++vs.drop (i+us.length):=by
 induction us with
 | nil=>intro vs i _;simp [overV]
 | cons u us ih =>
  intro vs i h
  simp only [List.length_cons] at h
  rw [overV,ih _ _ (by simp;omega)]
  have h1:(vs.set i u).take (i+1)=vs.take i++[u]:=by
   rw [List.take_add_one,List.take_set_of_le (Nat.le_refl _)]
   simp [List.getElem?_set]
   omega
  have h2:(vs.set i u).drop (i+1+us.length)=vs.drop (i+(us.length+1)):=by
   rw [List.drop_set_of_lt (by omega)]
   congr 1;omega
  rw [h1,h2]
  simp
theorem fold_overV (us:List Value):∀(vs:Array Value) (off k:Nat),((us.zipIdx k).foldl (fun (cs:Array Value) (x:Value×Nat)=>cs.setIfInBounds (off+x.2) x.1) vs).toList=overV vs.toList (off+k) us:=by
 induction us with
 | nil=>intro vs off k;simp [overV]
 | cons u us ih =>
  intro vs off k
  simp only [List.zipIdx_cons,List.foldl_cons,overV]
  rw [ih]
  simp [Nat.add_assoc]
theorem fold_overV' (us:Array Value) (vs:Array Value) (off:Nat):(us.zipIdx.foldl (fun (cs:Array Value) (x:Value×Nat)=>cs.setIfInBounds (off+x.2) x.1) vs).toList=overV vs.toList off us.toList:=by
 rw [←Array.foldl_toList]
 have:=fold_overV us.toList vs off 0
 simpa using this
section
variable {C:Pay α} {cx:Cx α}
theorem fillD_sound {place:Nat→Option (Nat×Nat)}:∀(ps:List (Nat×D α)) (qs:List (Nat×Value)) (cs cs':List (D α)) (vs:Array Value),qs.length=ps.length →
  (∀(i:Nat) p q,ps[i]?=some p→qs[i]?=some q→q.1=p.1∧RD C cx q.2 p.2)→RDcells C cx vs.toList cs→fillD place cs ps=some cs' →
  ∃vs',Instr.fill place vs qs=some vs'∧RDcells C cx vs'.toList cs'
 | [],[],cs,cs',vs,_,_,h,hf=>by
  simp only [fillD,Option.some.injEq] at hf
  subst hf
  exact ⟨vs,rfl,h⟩
 | (i,d)::ps,(j,v)::qs,cs,cs',vs,hl,hr,h,hf=>by
  obtain ⟨hij,hd⟩:=hr 0 (i,d) (j,v) rfl rfl
  simp only at hij hd
  subst hij
  simp only [fillD] at hf
  split at hf
  ·simp at hf
  ·rename_i off size hp
   cases hg:(fillD.isGood d&&Nat.beq (cellsD d).length size&&Nat.ble (off+size) cs.length) with
   | false=>simp [hg] at hf
   | true =>
   simp only [hg,cond_true] at hf
   simp only [Bool.and_eq_true] at hg
   obtain ⟨⟨hg1,hg2⟩,hg3⟩:=hg
   have hg2:=Nat.eq_of_beq_eq_true hg2
   have hg3:=Nat.le_of_ble_eq_true hg3
   have hc:=RDcells.of_good hd hg1
   have hsz:v.cells.size=size:=by have:=hc.1;simp at this;omega
   have hvs:vs.size=cs.length:=by simpa using h.1
   have hov:=RDcells.over _ _ _ _ off h hc
   rw [←fold_overV'] at hov
   obtain ⟨vs',h1,h2⟩:=fillD_sound ps qs _ cs' _ (by simpa using hl) (fun k p q hp hq=>hr (k+1) p q (by simpa using hp) (by simpa using hq)) hov hf
   refine ⟨vs',?_,h2⟩
   simp only [Instr.fill,hp]
   rw [if_neg (by simp;omega)]
   exact h1
 | [],_::_,_,_,_,hl,_,_,_=>by simp at hl
 | _::_,[],_,_,_,hl,_,_,_=>by simp at hl
theorem run_zero {P:Program} (w:World) {t:TypeId} {z:Value} (h:(P.info? t).bind (·.zero)=some z):(zeroValue t).run P w=.ok z w:=by
 cases hi:P.info? t with
 | none=>simp [hi] at h
 | some i=>simp only [hi,Option.bind_some] at h;simp [zeroValue,typeInfo,hi,h]
theorem zeroD_some {P:Program} {t:TypeId} {d:D α} (h:zeroD P t=some d):∃z,(P.info? t).bind (·.zero)=some z∧d=ofV z:=by
 unfold zeroD at h
 split at h
 ·rename_i v hv;simp only [Option.some.injEq] at h;exact ⟨v,hv,h.symm⟩
 ·simp at h
theorem buildD_sound (P:Program) (w:World) (t:TypeId) (ps:List (Nat×D α)) (qs:Array (Nat×Value)) (hl:qs.size=ps.length)
  (hr:∀(i:Nat) p q,ps[i]?=some p→qs[i]?=some q→q.1=p.1∧RD C cx q.2 p.2) (r:Res α) (hb:buildD P t ps=r) (hok:r.ok=true) :
  ∃v,(Instr.build t qs).run P w=.ok v w∧RD C cx v r.d∧r.ch=none:=by
 have hr':∀(i:Nat) p q,ps[i]?=some p→qs.toList[i]?=some q→q.1=p.1∧RD C cx q.2 p.2:=fun i p q hp hq=>hr i p q hp (by simpa using hq)
 unfold buildD at hb
 split at hb
 ·rename_i z fs hz hu
  obtain ⟨zv,hzv,hze⟩:=zeroD_some hz
  have hzr:RD C cx zv (.agg z):=by rw [hze];exact ofV_sound C cx zv
  split at hb
  ·rename_i cs hf
   subst hb
   have hzr':=hzr
   cases hzr with | agg zvs _ _ _ _ =>
   have hall:fs.toList.all (fun f=>(szO P f.type).isSome)=true:=hok
   have hplaces:(fs.mapM (fun f=>do pure (f.offset,←sizeOf f.type)):Sem (Array (Nat×Nat))).run P w=.ok (fs.map fun f=>(f.offset,(szO P f.type).getD 0)) w:=by
    rw [Array.mapM_eq_mapM_toList]
    have:∀l:List Field,l.all (fun f=>(szO P f.type).isSome)=true→(l.mapM (fun f=>do pure (f.offset,←sizeOf f.type)):Sem (List (Nat×Nat))).run P w=.ok (l.map fun f=>(f.offset,(szO P f.type).getD 0)) w:=by
     intro l
     induction l with
     | nil=>intro _;simp
     | cons f l ih =>
      intro hl
      simp only [List.all_cons,Bool.and_eq_true] at hl
      obtain ⟨n,hn⟩:=Option.isSome_iff_exists.1 hl.1
      have ih:=ih hl.2
      simp only [List.mapM_cons,Sem.run_bind,run_sizeOf' P w hn,Result.andThen_ok,Sem.run_pure,ih,List.map_cons,hn,Option.getD_some]
    simp only [Sem.run_map,this fs.toList hall,Result.andThen_ok]
    congr 1
    exact Array.ext' (by simp)
   obtain ⟨vs',h1,h2⟩:=fillD_sound (place:=fun i=>match fs.toList[i]? with
    | some f=>match szO P f.type with
     | some n=>some (f.offset,n)
     | none=>none
    | none=>none) ps qs.toList z cs zvs (by simpa using hl) hr' (RDcells.of_agg hzr') hf
   refine ⟨.agg vs',?_,RDcells.agg h2,rfl⟩
   have hplace:(fun (i:Nat)=>(fs.map fun (f:Field)=>(f.offset,(szO P f.type).getD 0))[i]?)=(fun (i:Nat)=>match fs.toList[i]? with
    | some f=>match szO P f.type with
     | some n=>some (f.offset,n)
     | none=>none
    | none=>none):=by
    funext i
    simp only [Array.getElem?_map,Array.getElem?_toList]
    cases hfi:fs[i]? with
    | none=>rfl
    | some f =>
     have hm:f∈fs.toList:=by simpa using Array.mem_of_getElem? hfi
     obtain ⟨n,hn⟩:=Option.isSome_iff_exists.1 (List.all_eq_true.1 hall f hm)
     simp [hn]
   simp only [Instr.build,Sem.run_bind,run_zero w hzv,Result.andThen_ok,Value.cells,run_underlying hu,hplaces,hplace,h1,Sem.run_pure]
  ·subst hb;simp [Res.no] at hok
 ·rename_i z n e hz hu
  obtain ⟨zv,hzv,hze⟩:=zeroD_some hz
  have hzr:RD C cx zv (.agg z):=by rw [hze];exact ofV_sound C cx zv
  split at hb
  ·rename_i m hm
   split at hb
   ·rename_i cs hf
    subst hb
    have hzr':=hzr
    cases hzr with | agg zvs _ _ _ _ =>
    obtain ⟨vs',h1,h2⟩:=fillD_sound (place:=fun i=>some (i * m,m)) ps qs.toList z cs zvs (by simpa using hl) hr' (RDcells.of_agg hzr') hf
    refine ⟨.agg vs',?_,RDcells.agg h2,rfl⟩
    simp only [Instr.build,Sem.run_bind,run_zero w hzv,Result.andThen_ok,Value.cells,run_underlying hu,run_sizeOf' P w hm,h1,Sem.run_pure]
   ·subst hb;simp [Res.no] at hok
  ·subst hb;simp [Res.no] at hok
 ·subst hb;simp [Res.no] at hok
end
end Go.Eng
namespace Go.Eng
open Go.RowKit
variable {α:Type}
theorem look_upd (hs:Obs α) (o k:Nat) (y:Ob α):look (upd hs o y) k=if k=o then (look hs o).map (fun _=>y) else look hs k:=by
 induction hs with
 | nil=>simp [upd,look]
 | cons p r ih =>
  obtain ⟨n,x⟩:=p
  simp only [upd]
  cases h:Nat.beq n o with
  | true =>
   obtain rfl:=Nat.eq_of_beq_eq_true h
   simp only [cond_true,look,h]
   by_cases hk:k=n
   ·subst hk;simp
   ·have:Nat.beq n k=false:=by
     cases h':Nat.beq n k with
     | false=>rfl
     | true=>exact absurd (Nat.eq_of_beq_eq_true h').symm hk
    simp [this,hk]
  | false =>
   simp only [cond_false,look,h,ih]
   by_cases hk:k=o
   ·subst hk;simp [h]
   ·simp [hk]
theorem look_drop (hs:Obs α) (o k:Nat):look (drop hs o) k=if k=o then none else look hs k:=by
 induction hs with
 | nil=>simp [drop,look]
 | cons p r ih =>
  obtain ⟨n,x⟩:=p
  simp only [drop]
  cases h:Nat.beq n o with
  | true =>
   obtain rfl:=Nat.eq_of_beq_eq_true h
   simp only [cond_true,look,ih]
   by_cases hk:k=n
   ·simp [hk]
   ·have:Nat.beq n k=false:=by
     cases h':Nat.beq n k with
     | false=>rfl
     | true=>exact absurd (Nat.eq_of_beq_eq_true h').symm hk
    simp [this,hk]
  | false =>
   simp only [cond_false,look,ih]
   by_cases hk:k=o
   ·subst hk;simp [h]
   ·simp [hk]
theorem look_killH (ns:Nat→Bool) (hs:Obs α) (k:Nat):look (killH ns hs) k=(look hs k).map (killOb ns):=by
 induction hs with
 | nil=>simp [killH,look]
 | cons p r ih =>
  obtain ⟨n,x⟩:=p
  simp only [killH,look,ih]
  cases Nat.beq n k<;>simp
theorem look_cons (n k:Nat) (x:Ob α) (r:Obs α):look ((n,x)::r) k=if k=n then some x else look r k:=by
 simp only [look]
 cases h:Nat.beq n k with
 | true=>obtain rfl:=Nat.eq_of_beq_eq_true h;simp
 | false =>
  have:¬ k=n:=by rintro rfl;simp at h
  simp [this]
theorem freezeOb_idem (x:Ob α):freezeOb (freezeOb x)=freezeOb x:=by cases x<;>rfl
theorem look_freeze (ns:List Nat):∀(hs:Obs α) (k:Nat),look (freeze hs ns) k=if k∈ns then (look hs k).map freezeOb else look hs k:=by
 induction ns with
 | nil=>intro hs k;simp [freeze]
 | cons n r ih =>
  intro hs k
  simp only [freeze]
  split
  ·rename_i x hx
   rw [ih,look_upd]
   by_cases hk:k=n
   ·subst hk
    simp only [if_true,hx,Option.map_some,List.mem_cons,true_or]
    split<;>simp [freezeOb_idem]
   ·simp [hk]
  ·rename_i hx
   rw [ih]
   by_cases hk:k=n
   ·subst hk;simp [hx]
   ·simp [hk]
theorem look_rebind (o dst:Nat) (ob:Ob α) (hs:Obs α) (k:Nat):look (rebind o dst ob hs) k=if k=dst then some ob else if k=o then none else (look hs k).map (killOb (nsOf o dst)):=by
 unfold rebind
 rw [look_cons,look_killH,look_drop,look_drop]
 by_cases h1:k=dst
 ·simp [h1]
 ·by_cases h2:k=o<;>simp [h1,h2]
theorem fz_killOb (ns:Nat→Bool) (x:Ob α):(killOb ns x).fz=x.fz:=by cases x<;>rfl
section
variable {X:Ctx α} (hX:XOk X) {g:Gh} {tm:List (D α)} {hs:Obs α} {a:Act} {w:World} (hS:Sim X g tm hs a w)
def KeepH (ns:Nat→Bool) (hs hs':Obs α) (rho rho':Nat→Option Nat):Prop :=
 ∀k,ns k=false→look hs' k=(look hs k).map (killOb ns)∧rho' k=rho k
theorem cxLe_step {C:Pay α} {ns:Nat→Bool} {hs':Obs α} {w':World} {rho':Nat→Option Nat} (hk:KeepH ns hs hs' g.rho rho')
    (hcell:∀(b:Nat) ob,¬ (cxOf g hs w).av b→w.heap[b]?=some ob→w'.heap[b]?=some ob)
    (hnew:∀k ob b,ns k=true→look hs' k=some ob→ob.fz=false→rho' k=some b→b < w.heap.size→(cxOf g hs w).av b)
    (hsz:∀(b:Nat) cells T fz,w.heap[b]?=some (.cells cells T fz)→∃cells' T' fz',w'.heap[b]?=some (.cells cells' T' fz')∧cells'.size=cells.size) :
    CxLe C ns (cxOf g hs w) (cxOf { g with rho:=rho' } hs' w') where
  cell:=hcell
  av := fun b ob hb hav hav' => by
    rcases hav' with h0 | ⟨o,x,hl,hf,hr⟩
    · exact hav (.inl h0)
    · cases hns:ns o with
      | true=>exact hav (hnew o x b hns hl hf hr (lt_of_heap hb))
      | false =>
        obtain ⟨h1,h2⟩:=hk o hns
        simp only at hl hr
        rw [h1] at hl
        obtain ⟨x',hx',rfl⟩:=Option.map_eq_some_iff.1 hl
        rw [h2] at hr
        exact hav (.inr ⟨o,x',hx',by rw [fz_killOb] at hf;exact hf,hr⟩)
  bx:=fun o b hns h=>by
    obtain ⟨h1,h2⟩:=hk o hns
    simp only [cxOf] at h ⊢
    rw [h1]
    cases hl:look hs o with
    | none=>simp [hl] at h
    | some x =>
      cases x with
      | box fz cs=>simp only [hl] at h;simp [killOb,h2,h]
      | arr fz p=>simp [hl] at h
      | map fz p=>simp only [hl] at h;simp [killOb,h2,h]
  ar := fun o b p hns h => by
    obtain ⟨h1,h2⟩:=hk o hns
    simp only [cxOf] at h ⊢
    rw [h1]
    cases hl:look hs o with
    | none=>simp [hl] at h
    | some x =>
      cases x with
      | box fz cs=>simp [hl] at h
      | arr fz q =>
        simp only [hl,Option.some.injEq,Prod.mk.injEq] at h
        exact ⟨p,by simp [killOb,h2,h],rfl,rfl⟩
      | map fz q=>simp [hl] at h
  size:=hsz
theorem blt_no {k:Nat} (h:Nat.blt k 40000=true):Nat.blt k 50000=true:=by
 have:=Nat.le_of_ble_eq_true h
 exact Nat.ble_eq_true_of_le (by omega)
include hX hS in
theorem sim_step {ns:Nat→Bool} {hs':Obs α} {w':World} {rho':Nat→Option Nat} (hk:KeepH ns hs hs' g.rho rho') (hb:BelowL X.C.dr g.w0.heap.size g.lent w w')
  (hle:CxLe X.C ns (cxOf g hs w) (cxOf { g with rho:=rho' } hs' w'))
  (hold:∀k ob b,ns k=false→look hs k=some ob→g.rho k=some b→w'.heap[b]?=w.heap[b]?)
  (hob:∀k ob,ns k=true→look hs' k=some ob→ObRel X.C (cxOf { g with rho:=rho' } hs' w') (rho' k) ob)
  (hown:∀k ob b,ns k=true→look hs' k=some ob→rho' k=some b→(g.w0.heap.size≤b∨g.lent b)∧b < w'.heap.size)
  (hinj:∀k k' ob ob' b,ns k=true→look hs' k=some ob→look hs' k'=some ob'→rho' k=some b→rho' k'=some b→k=k')
  (htop:∀k ob,ns k=true→look hs' k=some ob→Nat.blt k 40000=true) :
  Sim X { g with rho:=rho' } (tm.map (kill ns)) hs' a w':=by
 have hkeep:∀k ob,ns k=false→look hs' k=some ob→∃ob0,look hs k=some ob0∧ob=killOb ns ob0∧rho' k=g.rho k:=by
  intro k ob hns hl
  obtain ⟨h1,h2⟩:=hk k hns
  rw [h1] at hl
  obtain ⟨x,hx,rfl⟩:=Option.map_eq_some_iff.1 hl
  exact ⟨x,hx,rfl,h2⟩
 refine ⟨by simp [hS.size],fun t=>?_,hS.dfr,fun o ob ho=>?_,fun o o' ob ob' b ho ho' hr hr'=>?_,fun o ob b ho hr=>?_,hS.below.trans hb,hS.av0,hS.lav,fun c b hc=>?_,hS.glob⟩
 ·rw [getT_map _ (by simp [kill])]
  exact RG.kill hX.pay hle (hS.tm t)
 ·cases hns:ns o with
  | true=>exact hob o ob hns ho
  | false =>
   obtain ⟨x,hx,rfl,hr⟩:=hkeep o ob hns ho
   show ObRel X.C _ (rho' o) _
   rw [hr]
   exact ObRel.grow hX.pay hle (fun b' ob' hb' hh=>by
    show w'.heap[b']?=_
    rw [hold o x b' hns hx hb'];exact hh) (hS.obs o x hx)
 ·cases hns:ns o with
  | true=>exact hinj o o' ob ob' b hns ho ho' hr hr'
  | false =>
   cases hns':ns o' with
   | true=>exact (hinj o' o ob' ob b hns' ho' ho hr' hr).symm
   | false =>
    obtain ⟨x,hx,_,h1⟩:=hkeep o ob hns ho
    obtain ⟨x',hx',_,h1'⟩:=hkeep o' ob' hns' ho'
    simp only at hr hr'
    rw [h1] at hr
    rw [h1'] at hr'
    exact hS.inj o o' x x' b hx hx' hr hr'
 ·cases hns:ns o with
  | true=>exact hown o ob b hns ho hr
  | false =>
   obtain ⟨x,hx,_,h1⟩:=hkeep o ob hns ho
   simp only at hr
   rw [h1] at hr
   have:=hS.own o x b hx hr
   exact ⟨this.1,Nat.lt_of_lt_of_le this.2 hb.size⟩
 ·obtain ⟨h1,h1',h2⟩:=hS.top c b hc
  refine ⟨h1,h1',fun ob ho=>?_⟩
  cases hns:ns c with
  | true=>have:=blt_no (htop c ob hns ho);rw [this] at h1;simp at h1
  | false =>
   obtain ⟨x,hx,rfl,hr⟩:=hkeep c ob hns ho
   obtain ⟨h3,h4⟩:=h2 x hx
   refine ⟨hr.trans h3,fun f p e=>?_⟩
   cases x with
   | arr f' p'=>exact h4 f' p' rfl
   | box _ _=>simp [killOb] at e
   | map _ _=>simp [killOb] at e
def OpOut (X:Ctx α) (g:Gh) (tm:List (D α)) (hs:Obs α) (a:Act) (r:Res α) (v:Value) (w':World):Prop :=
 ∃rho',Sim X { g with rho:=rho' } (r.ch.getD (tm,hs)).1 (r.ch.getD (tm,hs)).2 a w'∧RD X.C (cxOf { g with rho:=rho' } (r.ch.getD (tm,hs)).2 w') v r.d
include hX hS in
theorem OpOut.quiet {r:Res α} {v:Value} {w':World} (hb:BelowD X.C.dr w.heap.size w w') (hch:r.ch=none) (hd:RD X.C (cxOf g hs w') v r.d):OpOut X g tm hs a r v w':=by
 refine ⟨g.rho,?_,?_⟩
 ·simp only [hch,Option.getD_none];exact hS.grow hX.pay hb
 ·simp only [hch,Option.getD_none];exact hd
include hX hS in
theorem OpOut.pure {r:Res α} {v:Value} (hch:r.ch=none) (hd:RD X.C (cxOf g hs w) v r.d):OpOut X g tm hs a r v w :=
 OpOut.quiet hX hS (BelowD.refl _ _) hch hd
theorem heap_alloc_new' (w:World) (o:Obj):(w.alloc o).heap[w.heap.size]?=some o:=heap_alloc_new w o
theorem heap_alloc_old' (w:World) (o:Obj) {b:Nat} (h:b < w.heap.size):(w.alloc o).heap[b]?=w.heap[b]?:=heap_alloc_old w o h
def bind1 (rho:Nat→Option Nat) (k:Nat) (b:Option Nat):Nat→Option Nat:=fun o=>if o=k then b else rho o
include hX hS in
theorem rebind_sound (dst o2:Nat) (hdst:Nat.blt dst 40000=true) (ob:Ob α) (bn:Option Nat) (w':World) (hb:BelowL X.C.dr g.w0.heap.size g.lent w w')
  (hcell:∀(k:Nat) ob,w.heap[k]?=some ob→some k≠bn→w'.heap[k]?=some ob)
  (hsz:∀(b:Nat) cells T fz,w.heap[b]?=some (.cells cells T fz)→∃cells' T' fz',w'.heap[b]?=some (.cells cells' T' fz')∧cells'.size=cells.size)
  (hbn:∀b,bn=some b→(g.w0.heap.size≤b∨g.lent b)∧b < w'.heap.size∧(b < w.heap.size→∃ob0,look hs o2=some ob0∧ob0.fz=false∧g.rho o2=some b))
  (hob:CxLe X.C (nsOf o2 dst) (cxOf g hs w) (cxOf { g with rho:=bind1 g.rho dst bn } (rebind o2 dst ob hs) w')→ObRel X.C (cxOf { g with rho:=bind1 g.rho dst bn } (rebind o2 dst ob hs) w') bn ob) :
  Sim X { g with rho:=bind1 g.rho dst bn } (tm.map (kill (nsOf o2 dst))) (rebind o2 dst ob hs) a w':=by
 have hhs:=look_rebind o2 dst ob hs
 generalize rebind o2 dst ob hs=hs' at *
 have hn:∀k,nsOf o2 dst k=false→¬ k=o2∧¬ k=dst:=by
  intro k hk
  simp only [nsOf,Bool.or_eq_false_iff] at hk
  exact ⟨by rintro rfl;simp at hk,by rintro rfl;simp at hk⟩
 have hk:KeepH (nsOf o2 dst) hs hs' g.rho (bind1 g.rho dst bn):=by
  intro k hns
  obtain ⟨h1,h2⟩:=hn k hns
  rw [hhs,if_neg h2,if_neg h1]
  exact ⟨rfl,by simp [bind1,h2]⟩
 have hnew:∀k x,nsOf o2 dst k=true→look hs' k=some x→k=dst∧x=ob:=by
  intro k x hns hl
  rw [hhs] at hl
  by_cases h2:k=dst
  ·simp only [h2,if_true,Option.some.injEq] at hl;exact ⟨h2,hl.symm⟩
  ·rw [if_neg h2] at hl
   simp only [nsOf,Bool.or_eq_true] at hns
   rcases hns with h | h
   ·rw [if_pos (Nat.eq_of_beq_eq_true h)] at hl;simp at hl
   ·exact absurd (Nat.eq_of_beq_eq_true h) h2
 have hle:=cxLe_step (C:=X.C) (g:=g) (hs:=hs) (w:=w) (w':=w') hk
  (fun b ob' hav hb'=>hcell b ob' hb' (fun e=>by
   obtain ⟨_,_,h3⟩:=hbn b e.symm
   obtain ⟨ob0,h4,h5,h6⟩:=h3 (lt_of_heap hb')
   exact hav (.inr ⟨o2,ob0,h4,h5,h6⟩)))
  (fun k x b hns hl hf hr hlt=>by
   obtain ⟨rfl,rfl⟩:=hnew k x hns hl
   simp only [bind1,if_true] at hr
   obtain ⟨_,_,h3⟩:=hbn b hr
   obtain ⟨ob0,h4,h5,h6⟩:=h3 hlt
   exact .inr ⟨o2,ob0,h4,h5,h6⟩) hsz
 refine sim_step hX hS hk hb hle (fun k x b hns hl hr=>?_) (fun k x hns hl=>?_) (fun k x b hns hl hr=>?_) (fun k k' x x' b hns hl hl' hr hr'=>?_) (fun k x hns hl=>by obtain ⟨rfl,_⟩:=hnew k x hns hl;exact hdst)
 ·have hlt:=(hS.own k x b hl hr).2
  have:w.heap[b]?=some w.heap[b]:=by simp [hlt]
  rw [this]
  refine hcell b _ this (fun e=>?_)
  obtain ⟨_,_,h3⟩:=hbn b e.symm
  obtain ⟨ob0,h4,h5,h6⟩:=h3 hlt
  exact (hn k hns).1 (hS.inj k o2 x ob0 b hl h4 hr h6)
 ·obtain ⟨rfl,rfl⟩:=hnew k x hns hl
  have:bind1 g.rho k bn k=bn:=by simp [bind1]
  rw [this]
  exact hob hle
 ·obtain ⟨rfl,rfl⟩:=hnew k x hns hl
  simp only [bind1,if_true] at hr
  obtain ⟨h1,h2,_⟩:=hbn b hr
  exact ⟨h1,h2⟩
 ·obtain ⟨rfl,rfl⟩:=hnew k x hns hl
  simp only [bind1,if_true] at hr
  by_cases hk':k'=k
  ·exact hk'.symm
  ·simp only [bind1] at hr'
   rw [if_neg hk'] at hr'
   exfalso
   cases hns':nsOf o2 k k' with
   | true=>exact hk' (hnew k' x' hns' hl').1
   | false =>
    obtain ⟨h1,h2⟩:=hk k' hns'
    rw [h1] at hl'
    obtain ⟨y,hy,_⟩:=Option.map_eq_some_iff.1 hl'
    have hlt:=(hS.own k' y _ hy hr').2
    obtain ⟨_,_,h3⟩:=hbn b hr
    obtain ⟨ob0,h4,h5,h6⟩:=h3 hlt
    exact (hn k' hns').1 (hS.inj k' o2 y ob0 b hy h4 hr' h6)
include hX hS in
theorem new_sound (dst o2:Nat) (hdst:Nat.blt dst 40000=true) (ob:Ob α) (obj:Obj) (w1:World) (hw1:BelowD X.C.dr w.heap.size w w1) (hs1:w1.heap.size=w.heap.size)
  (hob:∀cx:Cx α,CxLe X.C (nsOf o2 dst) (cxOf g hs w) cx→cx.w.heap[w.heap.size]?=some obj→ObRel X.C cx (some w.heap.size) ob) :
  Sim X { g with rho:=bind1 g.rho dst (some w.heap.size) } (tm.map (kill (nsOf o2 dst))) (rebind o2 dst ob hs) a (w1.alloc obj):=by
 have hlt:∀b:Nat,b < w.heap.size→(w1.alloc obj).heap[b]?=w.heap[b]?:=by
  intro b hb
  rw [heap_alloc_old' _ _ (by omega),hw1.block b hb]
 refine rebind_sound hX hS dst o2 hdst ob (some w.heap.size) (w1.alloc obj) (toL ((hw1.mono hS.below.size).alloc (by have:=hS.below.size;omega) obj))
  (fun k ob' hk _=>by rw [hlt k (lt_of_heap hk)];exact hk) (fun b cells T fz hb=>⟨cells,T,fz,by rw [hlt b (lt_of_heap hb)];exact hb,rfl⟩)
  (fun b hb=>?_) (fun hle=>hob _ hle ?_)
 ·simp only [Option.some.injEq] at hb
  subst hb
  exact ⟨.inl hS.below.size,by rw [World.size_alloc];omega,fun h=>by omega⟩
 ·show (w1.alloc obj).heap[w.heap.size]?=_
  rw [←hs1];exact heap_alloc_new' _ _
include hX hS in
theorem sim_write {o b:Nat} {ob ob':Ob α} {w':World} (hl:look hs o=some ob) (hf:ob.fz=false) (hrho:g.rho o=some b) (hf':ob'.fz=false)
  (hkind:match ob,ob' with | .box _ _,.box _ _=>True | .map _ _,.map _ _=>True | .arr _ p,.arr _ q=>X.C.len q=X.C.len p∧X.C.esz q=X.C.esz p | _,_=>False)
  (hq:w'.os=w.os∧w'.tape=w.tape∧w'.output=w.output∧w.drawn≤w'.drawn) (hsize:w'.heap.size=w.heap.size) (hcell:∀(k:Nat),k≠b→w'.heap[k]?=w.heap[k]?)
  (hsz:∀(k:Nat) cells T fz,w.heap[k]?=some (.cells cells T fz)→∃cells' T' fz',w'.heap[k]?=some (.cells cells' T' fz')∧cells'.size=cells.size)
  (hob:CxLe X.C (fun _=>false) (cxOf g hs w) (cxOf g (upd hs o ob') w')→ObRel X.C (cxOf g (upd hs o ob') w') (some b) ob') :
  Sim X g tm (upd hs o ob') a w':=by
 have hb:BelowL X.C.dr g.w0.heap.size g.lent w w':=⟨hq.1,hq.2.1,hq.2.2.1,by omega,fun k hk hL=>hcell k (fun e=>by
  subst e
  rcases (hS.own o ob k hl hrho).1 with h | h
  ·omega
  ·exact hL h),fun k cells T fz _ hc=>hsz k cells T fz hc,fun _=>hq.2.2.2⟩
 have hlu:∀k x,look (upd hs o ob') k=some x→∃y,look hs k=some y∧y.fz=x.fz∧(k≠o→x=y):=by
  intro k x h
  rw [look_upd] at h
  by_cases hk:k=o
  ·subst hk
   simp only [if_true,hl,Option.map_some,Option.some.injEq] at h
   subst h
   exact ⟨ob,hl,by rw [hf,hf'],fun e=>absurd rfl e⟩
  ·rw [if_neg hk] at h
   exact ⟨x,h,rfl,fun _=>rfl⟩
 have hle:CxLe X.C (fun _=>false) (cxOf g hs w) (cxOf g (upd hs o ob') w'):=by
  refine ⟨fun k x hav hk=>?_,fun k x hk hav hav'=>?_,fun k b' _ h=>?_,fun k b' p _ h=>?_,hsz⟩
  ·show w'.heap[k]?=_
   rw [hcell k (fun e=>hav (.inr ⟨o,ob,hl,hf,by rw [e];exact hrho⟩))]
   exact hk
  ·rcases hav' with h0 | ⟨o',x',hl',hf'',hr'⟩
   ·exact hav (.inl h0)
   ·obtain ⟨y,hy,hfy,_⟩:=hlu o' x' hl'
    exact hav (.inr ⟨o',y,hy,by rw [hfy];exact hf'',hr'⟩)
  ·simp only [cxOf] at h ⊢
   rw [look_upd]
   by_cases hk:k=o
   ·subst hk
    simp only [hl] at h
    cases ob with
    | box fz cs=>cases ob' with
     | box fz' cs'=>simpa [hl] using h
     | arr fz' q=>exact hkind.elim
     | map fz' q=>exact hkind.elim
    | arr fz p=>simp at h
    | map fz p=>cases ob' with
     | box fz' cs'=>exact hkind.elim
     | arr fz' q=>exact hkind.elim
     | map fz' q=>simpa [hl] using h
   ·rw [if_neg hk];exact h
  ·simp only [cxOf] at h ⊢
   rw [look_upd]
   by_cases hk:k=o
   ·subst hk
    simp only [hl] at h
    cases ob with
    | box fz cs=>simp at h
    | map fz cs=>simp at h
    | arr fz p'=>cases ob' with
     | box fz' cs'=>exact hkind.elim
     | map fz' cs'=>exact hkind.elim
     | arr fz' q =>
      simp only [Option.some.injEq,Prod.mk.injEq] at h
      obtain ⟨h1,rfl⟩:=h
      exact ⟨q,by simp [hl,h1],hkind.1,hkind.2⟩
   ·rw [if_neg hk];exact ⟨p,h,rfl,rfl⟩
 refine ⟨hS.size,fun t=>?_,hS.dfr,fun k x hk=>?_,fun k k' x x' b' hk hk' hr hr'=>?_,fun k x b' hk hr=>?_,hS.below.trans hb,hS.av0,hS.lav,fun c b' hc=>⟨(hS.top c b' hc).1,(hS.top c b' hc).2.1,fun x hx=>?_⟩,hS.glob⟩
 ·have:=RG.kill hX.pay hle (hS.tm t)
  rwa [kill_none] at this
 ·by_cases hko:k=o
  ·subst hko
   rw [look_upd,if_pos rfl,hl] at hk
   simp only [Option.map_some,Option.some.injEq] at hk
   subst hk
   rw [hrho]
   exact hob hle
  ·rw [look_upd,if_neg hko] at hk
   have:=ObRel.grow hX.pay hle (b:=g.rho k) (fun b' ob'' hb' hh=>by
    show w'.heap[b']?=_
    rw [hcell b' (fun e=>hko (hS.inj k o x ob b hk hl (by rw [hb',e]) hrho))];exact hh) (hS.obs k x hk)
   rwa [killOb_none] at this
 ·obtain ⟨y,hy,_⟩:=hlu k x hk
  obtain ⟨y',hy',_⟩:=hlu k' x' hk'
  exact hS.inj k k' y y' b' hy hy' hr hr'
 ·obtain ⟨y,hy,_⟩:=hlu k x hk
  have:=hS.own k y b' hy hr
  exact ⟨this.1,by omega⟩
 ·rw [look_upd] at hx
  by_cases hco:c=o
  ·subst hco
   simp only [if_true,hl,Option.map_some,Option.some.injEq] at hx
   subst hx
   obtain ⟨h1,h2⟩:=(hS.top c b' hc).2.2 ob hl
   refine ⟨h1,fun f p e=>?_⟩
   subst e
   cases ob with
   | arr f' p'=>exact h2 f' p' rfl
   | box _ _=>exact hkind.elim
   | map _ _=>exact hkind.elim
  ·rw [if_neg hco] at hx
   exact (hS.top c b' hc).2.2 x hx
include hX hS in
theorem sim_freeze (ns:List Nat):Sim X g tm (freeze hs ns) a w∧CxLe X.C (fun _=>false) (cxOf g hs w) (cxOf g (freeze hs ns) w):=by
 have hlu:∀k x,look (freeze hs ns) k=some x→∃y,look hs k=some y∧(x=y∨x=freezeOb y):=by
  intro k x h
  rw [look_freeze] at h
  split at h
  ·obtain ⟨y,hy,rfl⟩:=Option.map_eq_some_iff.1 h
   exact ⟨y,hy,.inr rfl⟩
  ·exact ⟨x,h,.inl rfl⟩
 have hle:CxLe X.C (fun _=>false) (cxOf g hs w) (cxOf g (freeze hs ns) w):=by
  refine ⟨fun k x _ hk=>hk,fun k x _ hav hav'=>?_,fun k b' _ h=>?_,fun k b' p _ h=>?_,fun k cells T fz h=>⟨cells,T,fz,h,rfl⟩⟩
  ·rcases hav' with h0 | ⟨o',x',hl',hf',hr'⟩
   ·exact hav (.inl h0)
   ·obtain ⟨y,hy,rfl | rfl⟩:=hlu o' x' hl'
    ·exact hav (.inr ⟨o',_,hy,hf',hr'⟩)
    ·cases y<;>simp [freezeOb,Ob.fz] at hf'
  ·simp only [cxOf] at h ⊢
   rw [look_freeze]
   cases hl:look hs k with
   | none=>simp [hl] at h
   | some y =>
    rw [hl] at h
    cases y with
    | box fz cs=>by_cases hm:k∈ns<;>simpa [freezeOb,hl,hm] using h
    | arr fz p=>simp at h
    | map fz p=>by_cases hm:k∈ns<;>simpa [freezeOb,hl,hm] using h
  ·simp only [cxOf] at h ⊢
   rw [look_freeze]
   cases hl:look hs k with
   | none=>simp [hl] at h
   | some y =>
    rw [hl] at h
    cases y with
    | box fz cs=>simp at h
    | map fz cs=>simp at h
    | arr fz q =>
     simp only [Option.some.injEq,Prod.mk.injEq] at h
     obtain ⟨h1,rfl⟩:=h
     refine ⟨q,?_,rfl,rfl⟩
     by_cases hm:k∈ns<;>simp [freezeOb,h1,hm]
 refine ⟨⟨hS.size,fun t=>?_,hS.dfr,fun k x hk=>?_,fun k k' x x' b' hk hk' hr hr'=>?_,fun k x b' hk hr=>?_,hS.below,hS.av0,hS.lav,fun c b' hc=>⟨(hS.top c b' hc).1,(hS.top c b' hc).2.1,fun x hx=>?_⟩,hS.glob⟩,hle⟩
 ·have:=RG.kill hX.pay hle (hS.tm t)
  rwa [kill_none] at this
 ·obtain ⟨y,hy,h⟩:=hlu k x hk
  have:=ObRel.grow hX.pay hle (b:=g.rho k) (fun b' ob'' hb' hh=>hh) (hS.obs k y hy)
  rw [killOb_none] at this
  rcases h with rfl | rfl
  ·exact this
  ·cases y<;>exact this
 ·obtain ⟨y,hy,_⟩:=hlu k x hk
  obtain ⟨y',hy',_⟩:=hlu k' x' hk'
  exact hS.inj k k' y y' b' hy hy' hr hr'
 ·obtain ⟨y,hy,_⟩:=hlu k x hk
  exact hS.own k y b' hy hr
 ·obtain ⟨y,hy,h⟩:=hlu c x hx
  obtain ⟨h1,h2⟩:=(hS.top c b' hc).2.2 y hy
  refine ⟨h1,fun f p e=>?_⟩
  rcases h with rfl | rfl
  ·exact h2 f p e
  ·cases y with
   | arr f' p'=>exact h2 f' p' rfl
   | box _ _=>simp [freezeOb] at e
   | map _ _=>simp [freezeOb] at e
end
end Go.Eng
