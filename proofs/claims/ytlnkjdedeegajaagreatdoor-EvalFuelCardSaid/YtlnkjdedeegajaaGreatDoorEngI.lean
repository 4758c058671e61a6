/-
  THE ENGINE, PART H: WHAT IS HANDED OVER; LITERALS; CONVERSIONS.
-/
import Derived.Test.YtlnkjdedeegajaaGreatDoorEngG
namespace Go.Eng
open Go.RowKit
variable {α:Type}
mutual
theorem RD_flat {C:Pay α} {cx cx':Cx α}:∀(d:D α) (v:Value),flat d=true→RD C cx v d→RD C cx' v d
  | .bool _,_,_,h=>by cases h;exact .bool _
  | .int _ _,_,_,h=>by cases h with | int _ _ h=>exact .int _ _ h
  | .str _,_,_,h=>by cases h with | str _ _ h hl=>exact .str _ _ h hl
  | .nilP,_,_,h=>by cases h;exact .nilP
  | .nilS,_,_,h=>by cases h;exact .nilS
  | .nilF,_,_,h=>by cases h;exact .nilF
  | .nilI,_,_,h=>by cases h;exact .nilI
  | .nilM,_,_,h=>by cases h;exact .nilM
  | .lit _,_,_,h=>by cases h;exact .lit _
  | .agg cs,_,hf,h=>by
    cases h with | agg vs _ hs h1 hr =>
    exact .agg vs cs hs h1 fun i v c hv hc=>RD_flatL cs (by simpa [flat] using hf) i v c hc (hr i v c hv hc)
  | .tup cs,_,hf,h=>by
    cases h with | tup vs _ hs hr =>
    exact .tup vs cs hs fun i v c hv hc=>RD_flatL cs (by simpa [flat] using hf) i v c hc (hr i v c hv hc)
  | .pl _ _,_,hf,_ | .mp _,_,hf,_ | .mr _,_,hf,_ | .arr _,_,hf,_ | .ptr _ _,_,hf,_ | .epr _ _ _,_,hf,_ | .ref _,_,hf,_ | .fn _ _,_,hf,_ | .ifc _ _,_,hf,_ | .gd _ _ _,_,hf,_ | .ow _ _,_,hf,_ | .ifa,_,hf,_ | .mref _ _,_,hf,_ | .bad,_,hf,_ | .obB _ _,_,hf,_ | .obA _ _,_,hf,_ | .obM _ _,_,hf,_ | .env _ _,_,hf,_=>by simp [flat] at hf
theorem RD_flatL {C:Pay α} {cx cx':Cx α}:∀(cs:List (D α)),flatL cs=true→∀(i:Nat) v c,cs[i]?=some c→RD C cx v c→RD C cx' v c
  | [],_,_,_,_,h,_=>by simp at h
  | d::r,hf,0,v,c,hc,h=>by
    simp only [flatL,Bool.and_eq_true] at hf
    simp only [List.getElem?_cons_zero,Option.some.injEq] at hc
    subst hc
    exact RD_flat _ v hf.1 h
  | d::r,hf,i+1,v,c,hc,h=>by
    simp only [flatL,Bool.and_eq_true] at hf
    exact RD_flatL r hf.2 i v c (by simpa using hc) h
end
theorem closed_of_not {y:D α} (h1:∀o,y=.arr o→False) (h2:∀o k,y=.ptr o k→False) (h3:∀o i k,y=.epr o i k→False) (h4:∀cs,y=.agg cs→False) (h5:∀cs,y=.tup cs→False)
    (h6:∀cs,y=.ref cs→False) (h7:∀f cs,y=.fn f cs→False) (h8:∀t d,y=.ifc t d→False) (h9:∀ks t d,y=.gd ks t d→False) (h10:∀k d,y=.ow k d→False) (h11:∀o,y=.mp o→False):closed y=true:=by
  cases y<;>first | rfl | (exfalso;solve | exact h1 _ rfl | exact h2 _ _ rfl | exact h3 _ _ _ rfl | exact h4 _ rfl | exact h5 _ rfl | exact h6 _ rfl | exact h7 _ _ rfl | exact h8 _ _ rfl | exact h9 _ _ _ rfl | exact h10 _ _ rfl | exact h11 _ rfl)
section
variable {X:Ctx α} (hX:XOk X) {g:Gh} {tm:List (D α)} {hs:Obs α} {a:Act} {w:World} (hS:Sim X g tm hs a w)
theorem cxLe_out {C:Pay α} {g:Gh} {hs:Obs α} {w:World} {av':Nat→Prop} (hav:∀b,av' b→(cxOf g hs w).av b):CxLe C (fun _=>true) (cxOf g hs w) (cx0 w av':Cx α) where
  cell:=fun _ _ _ h=>h
  av:=fun b _ _ h h'=>h (hav b h')
  bx:=fun _ _ h=>by simp at h
  ar:=fun _ _ _ h=>by simp at h
  size:=fun _ cells T fz h=>⟨cells,T,fz,h,rfl⟩
include hX hS in
theorem lend_sound (av':Nat→Prop) (hav:∀b,av' b→(cxOf g hs w).av b):∀(n:Nat),
    (∀(d:D α) (v:Value) d' ns,RD X.C (cxOf g hs w) v d→lend X.C hs n d=some (d',ns)→(∀o ob b,o∈ns→look hs o=some ob→g.rho o=some b→¬ av' b)→RD X.C (cx0 w av') v d') ∧
    (∀(l:List (D α)) l' ns,lend.lendL X.C hs n l=some (l',ns)→(∀o ob b,o∈ns→look hs o=some ob→g.rho o=some b→¬ av' b)→l'.length=l.length ∧
      ∀(i:Nat) v c c',l[i]?=some c→l'[i]?=some c'→RD X.C (cxOf g hs w) v c→RD X.C (cx0 w av') v c'):=by
  intro n
  induction n with
  | zero =>
    refine ⟨fun d v d' ns _ h=>by simp [lend] at h,fun l l' ns h _=>?_⟩
    cases l with
    | nil=>simp only [lend.lendL,Option.some.injEq,Prod.mk.injEq] at h;obtain ⟨rfl,rfl⟩:=h;exact ⟨rfl,fun i v c c' hc=>by simp at hc⟩
    | cons d r=>simp [lend.lendL] at h
  | succ n ih =>
    obtain ⟨ih1,ih2⟩:=ih
    refine ⟨fun d v d' ns hd h hns=>?_,fun l l' ns h hns=>?_⟩
    · unfold lend at h
      split at h
      · omega
      · rename_i o heq
        split at h
        · rename_i fz p hl
          simp only [Option.some.injEq,Prod.mk.injEq] at h
          obtain ⟨rfl,rfl⟩:=h
          have har:=arr_of (g:=g) (w:=w) hl
          have hob:=hS.obs o _ hl
          cases hd with
          | arrO _ b p' n' c ho hn hc hz =>
            rw [har] at ho
            simp only [Option.some.injEq,Prod.mk.injEq] at ho
            obtain ⟨hrho,rfl⟩:=ho
            rw [hrho] at hob
            obtain ⟨cells,T,hh,hsz,hbg,h1,hr⟩:=hob
            subst hn
            have hlt:∀i j d,i < X.C.len p→(X.C.elem p i)[j]?=some d→i * X.C.esz p+j < cells.size:=by
              intro i j d hi hj
              have hj':j < X.C.esz p:=by
                rw [←hX.pay.elen p i hi];rcases Nat.lt_or_ge j (X.C.elem p i).length with h | h
                · exact h
                · simp [List.getElem?_eq_none h] at hj
              have:(i+1) * X.C.esz p≤X.C.len p * X.C.esz p:=Nat.mul_le_mul_right _ hi
              rw [Nat.add_mul] at this;omega
            refine .pl b 0 _ c p .any (fun i j=>(cells[i * X.C.esz p+j]?).getD undef) rfl hc hbg trivial (hns o _ b List.mem_cons_self hl hrho) (fun i j d hi hj=>?_) (fun i j d hi hj=>?_) (fun i j d hi hj=>?_)
            · have:=hlt i j d hi hj
              show w.cell? _=_
              rw [Nat.zero_add,cell_at (w:=w) hh]
              simp [this]
            · have:=hlt i j d hi hj
              simp only [this,getElem?_pos,Option.getD_some]
              exact h1 _ _ (Array.getElem?_eq_getElem this)
            · have:=hlt i j d hi hj
              simp only [this,getElem?_pos,Option.getD_some]
              exact RD.closedTo hX.pay (cxLe_out hav) (hX.pay.clo p i d (List.mem_of_getElem? hj)) (hr i j _ d hi (Array.getElem?_eq_getElem this) hj)
          | arrN _ p' a' ho hn =>
            rw [har] at ho
            simp only [Option.some.injEq,Prod.mk.injEq] at ho
            obtain ⟨hrho,rfl⟩:=ho
            exact .pl0 _ _ _ _ hn trivial
        · simp at h
      · rename_i n' o off heq
        obtain rfl:n=n':=by simpa using heq
        split at h
        · rename_i fz cs hl
          split at h
          · rename_i l ms hll
            simp only [Option.some.injEq,Prod.mk.injEq] at h
            obtain ⟨rfl,rfl⟩:=h
            obtain ⟨b,o',hv,hat⟩:=cellsAt_sound hX hS hd (show cellsAt X.C hs (.ptr o off)=some (cs,off) by simp [cellsAt,hl])
            subst hv
            obtain ⟨hlen,hget⟩:=ih2 _ _ _ hll (fun o' x' b' ho'=>hns o' x' b' (List.mem_cons_of_mem _ ho'))
            have hex:∀(i:Nat) c',l[i]?=some c'→∃u,w.cell? ⟨b,o'+i,none⟩=some u∧u.oneCell'=true∧RD X.C (cx0 w av') u c':=by
              intro i c' hc'
              have hi:i < (cs.drop off).length:=by
                rw [←hlen];rcases Nat.lt_or_ge i l.length with h | h
                · exact h
                · simp [List.getElem?_eq_none h] at hc'
              have hc:(cs.drop off)[i]?=some ((cs.drop off)[i]):=by simp
              obtain ⟨u,h1,h2,h3⟩:=hat i _ (by rw [←List.getElem?_drop];exact hc)
              exact ⟨u,h1,h2,hget i u _ c' hc hc' h3⟩
            have hbo:g.rho o=some b:=by
              cases hd with | ptr _ _ _ ho=>simpa [cxOf,hl] using ho
            refine .ref b o' l (fun i=>(w.cell? ⟨b,o'+i,none⟩).getD undef) (fun _=>hns o _ b List.mem_cons_self hl hbo) (fun i c hc=>?_) (fun i c hc=>?_) (fun i c hc=>?_)
            all_goals obtain ⟨u,h1,h2,h3⟩:=hex i c hc
            · show w.cell? _=_;rw [h1];rfl
            · rw [h1];exact h2
            · rw [h1];exact h3
          · simp at h
        · simp at h
      · rename_i o i off heq
        split at h
        · rename_i fz p hl
          simp only [Option.some.injEq,Prod.mk.injEq] at h
          obtain ⟨rfl,rfl⟩:=h
          obtain ⟨b,o',hv,hat⟩:=cellsAt_sound hX hS hd (show cellsAt X.C hs (.epr o i off)=some (X.C.elem p i,off) by simp [cellsAt,hl])
          subst hv
          have hbo:g.rho o=some b∧i < X.C.len p:=by
            cases hd with | epr _ _ _ _ p' ho hi =>
            rw [arr_of (g:=g) (w:=w) hl] at ho
            simp only [Option.some.injEq,Prod.mk.injEq] at ho
            obtain ⟨h1,rfl⟩:=ho
            exact ⟨h1,hi⟩
          refine .ref b o' _ (fun i=>(w.cell? ⟨b,o'+i,none⟩).getD undef) (fun _=>hns o _ b List.mem_cons_self hl hbo.1) (fun j c hc=>?_) (fun j c hc=>?_) (fun j c hc=>?_)
          all_goals
            rw [List.getElem?_drop] at hc
            obtain ⟨u,h1,h2,h3⟩:=hat j c hc
            have h1:w.cell? _=some u:=h1
          · show w.cell? _=_;rw [h1];rfl
          · rw [h1];exact h2
          · rw [h1];exact RD.closedTo hX.pay (cxLe_out hav) (hX.pay.clo p i c (List.mem_of_getElem? hc)) h3
        · simp at h
      · rename_i n' o heq
        split at h
        · rename_i fz p hl
          simp only [Option.some.injEq,Prod.mk.injEq] at h
          obtain ⟨rfl,rfl⟩:=h
          cases hd with | mp _ b ho =>
          have hrho:g.rho o=some b:=by simpa [cxOf,hl] using ho
          obtain ⟨b',es,clock,hb',hh,hsz,hdd,hk,hv⟩:=hS.obs o _ hl
          rw [hrho] at hb'
          simp only [Option.some.injEq] at hb'
          subst hb'
          have hlt:∀(i:Nat) e,es[i]?=some e→i < X.C.len p:=by
            intro i e he
            rw [←hsz.size]
            rcases Nat.lt_or_ge i es.size with h | h
            · exact h
            · simp [Array.getElem?_eq_none h] at he
          exact .mr b clock es p (hns o _ b List.mem_cons_self hl hrho) hh hsz hdd (fun i e he=>RD.closedTo hX.pay (cxLe_out hav) (hX.pay.mkclo p i (hlt i e he)) (hk i e he))
            fun i e he=>RD.closedTo hX.pay (cxLe_out hav) (hX.pay.mvclo p i (hlt i e he)) (hv i e he)
        · simp at h
      · rename_i n' cs heq
        obtain rfl:n=n':=by simpa using heq
        split at h
        · rename_i l ms hll
          simp only [Option.some.injEq,Prod.mk.injEq] at h
          obtain ⟨rfl,rfl⟩:=h
          obtain ⟨hlen,hget⟩:=ih2 _ _ _ hll hns
          cases hd with | agg vs _ hs' h1 hr =>
          refine .agg vs l (by rw [hlen];exact hs') h1 fun i v c hv hc=>?_
          have hi:i < cs.length:=by rw [←hs'];rcases Nat.lt_or_ge i vs.size with h | h;exact h;simp [Array.getElem?_eq_none h] at hv
          have hc0:cs[i]?=some cs[i]:=by simp [hi]
          exact hget i v _ c hc0 hc (hr i v _ hv hc0)
        · simp at h
      · rename_i n' cs heq
        obtain rfl:n=n':=by simpa using heq
        split at h
        · rename_i l ms hll
          simp only [Option.some.injEq,Prod.mk.injEq] at h
          obtain ⟨rfl,rfl⟩:=h
          obtain ⟨hlen,hget⟩:=ih2 _ _ _ hll hns
          cases hd with | tup vs _ hs' hr =>
          refine .tup vs l (by rw [hlen];exact hs') fun i v c hv hc=>?_
          have hi:i < cs.length:=by rw [←hs'];rcases Nat.lt_or_ge i vs.size with h | h;exact h;simp [Array.getElem?_eq_none h] at hv
          have hc0:cs[i]?=some cs[i]:=by simp [hi]
          exact hget i v _ c hc0 hc (hr i v _ hv hc0)
        · simp at h
      · rename_i n' cs heq
        obtain rfl:n=n':=by simpa using heq
        split at h
        · rename_i l ms hll
          simp only [Option.some.injEq,Prod.mk.injEq] at h
          obtain ⟨rfl,rfl⟩:=h
          obtain ⟨hlen,hget⟩:=ih2 _ _ _ hll hns
          cases hd with | ref b off _ vs hv0 hcell h1 hr =>
          have hc0:∀(i:Nat) c,l[i]?=some c→∃c0,cs[i]?=some c0:=by
            intro i c hc
            have hi:i < cs.length:=by
              rw [←hlen];rcases Nat.lt_or_ge i l.length with h | h
              · exact h
              · simp [List.getElem?_eq_none h] at hc
            exact ⟨cs[i],by simp [hi]⟩
          refine .ref b off l vs (fun hne h'=>hv0 (fun e=>hne (by subst e;exact List.eq_nil_of_length_eq_zero (by simpa using hlen))) (hav b h')) (fun i c hc=>?_) (fun i c hc=>?_) fun i c hc=>?_
          all_goals obtain ⟨c0,hc0⟩:=hc0 i c hc
          · exact hcell i c0 hc0
          · exact h1 i c0 hc0
          · exact hget i _ c0 c hc0 hc (hr i c0 hc0)
        · simp at h
      · rename_i n' f cs heq
        obtain rfl:n=n':=by simpa using heq
        split at h
        · rename_i l ms hll
          simp only [Option.some.injEq,Prod.mk.injEq] at h
          obtain ⟨rfl,rfl⟩:=h
          obtain ⟨hlen,hget⟩:=ih2 _ _ _ hll hns
          cases hd with | fn _ f' va vb vs _ hs' hr hm =>
          refine .fn f f' va vb vs l (by rw [hlen];exact hs') (fun i v c hv hc=>?_) hm
          have hi:i < cs.length:=by rw [←hs'];rcases Nat.lt_or_ge i vs.size with h | h;exact h;simp [Array.getElem?_eq_none h] at hv
          have hc0:cs[i]?=some cs[i]:=by simp [hi]
          exact hget i v _ c hc0 hc (hr i v _ hv hc0)
        · simp at h
      · rename_i n' t d0 heq
        obtain rfl:n=n':=by simpa using heq
        split at h
        · rename_i x ms hll
          simp only [Option.some.injEq,Prod.mk.injEq] at h
          obtain ⟨rfl,rfl⟩:=h
          cases hd with | ifc _ v' _ h' =>
          exact .ifc t v' x (ih1 _ _ _ _ h' hll hns)
        · simp at h
      · simp at h
      · simp at h
      · simp only [Option.some.injEq,Prod.mk.injEq] at h
        obtain ⟨rfl,rfl⟩:=h
        exact RD.closedTo hX.pay (cxLe_out hav) (closed_of_not (by assumption) (by assumption) (by assumption) (by assumption) (by assumption) (by assumption) (by assumption) (by assumption) (by assumption) (by assumption) (by assumption)) hd
    · cases l with
      | nil=>simp only [lend.lendL,Option.some.injEq,Prod.mk.injEq] at h;obtain ⟨rfl,rfl⟩:=h;exact ⟨rfl,fun i v c c' hc=>by simp at hc⟩
      | cons d r =>
        simp only [lend.lendL] at h
        split at h
        · rename_i x ms l0 ns0 h1 h2
          simp only [Option.some.injEq,Prod.mk.injEq] at h
          obtain ⟨rfl,rfl⟩:=h
          obtain ⟨hlen,hget⟩:=ih2 r l0 ns0 h2 (fun o x b ho=>hns o x b (List.mem_append_right _ ho))
          refine ⟨by simp [hlen],fun i v c c' hc hc' hv=>?_⟩
          cases i with
          | zero =>
            simp only [List.getElem?_cons_zero,Option.some.injEq] at hc hc'
            subst hc hc'
            exact ih1 _ v _ _ hv h1 (fun o x b ho=>hns o x b (List.mem_append_left _ ho))
          | succ i=>exact hget i v c c' (by simpa using hc) (by simpa using hc') hv
        · simp at h
include hX hS in
theorem lendAll_sound (av':Nat→Prop) (hav:∀b,av' b→(cxOf g hs w).av b):∀(l:List (D α)) l' ns,lendAll X.C hs l=some (l',ns)→(∀o ob b,o∈ns→look hs o=some ob→g.rho o=some b→¬ av' b) →
    l'.length=l.length∧∀(i:Nat) v c c',l[i]?=some c→l'[i]?=some c'→RD X.C (cxOf g hs w) v c→RD X.C (cx0 w av') v c'
  | [],l',ns,h,_=>by simp only [lendAll,Option.some.injEq,Prod.mk.injEq] at h;obtain ⟨rfl,rfl⟩:=h;exact ⟨rfl,fun i v c c' hc=>by simp at hc⟩
  | d::r,l',ns,h,hns=>by
    simp only [lendAll] at h
    split at h
    · rename_i x ms l0 ns0 h1 h2
      simp only [Option.some.injEq,Prod.mk.injEq] at h
      obtain ⟨rfl,rfl⟩:=h
      obtain ⟨hlen,hget⟩:=lendAll_sound av' hav r l0 ns0 h2 (fun o x b ho=>hns o x b (List.mem_append_right _ ho))
      refine ⟨by simp [hlen],fun i v c c' hc hc' hv=>?_⟩
      cases i with
      | zero =>
        simp only [List.getElem?_cons_zero,Option.some.injEq] at hc hc'
        subst hc hc'
        exact (lend_sound hX hS av' hav 40).1 _ v _ _ hv h1 (fun o x b ho=>hns o x b (List.mem_append_left _ ho))
      | succ i=>exact hget i v c c' (by simpa using hc) (by simpa using hc') hv
    · simp at h
end
end Go.Eng
namespace Go.Eng
open Go.RowKit
variable {α:Type}
def RDcells (C:Pay α) (cx:Cx α) (vs:List Value) (cs:List (D α)):Prop :=
  vs.length=cs.length∧(∀(i:Nat) v,vs[i]?=some v→v.oneCell'=true)∧∀(i:Nat) v c,vs[i]?=some v→cs[i]?=some c→RD C cx v c
theorem RDcells.agg {C:Pay α} {cx:Cx α} {vs:Array Value} {cs:List (D α)} (h:RDcells C cx vs.toList cs):RD C cx (.agg vs) (.agg cs) :=
  .agg vs cs (by simpa using h.1) (fun i v hv=>h.2.1 i v (by simpa using hv)) (fun i v c hv hc=>h.2.2 i v c (by simpa using hv) hc)
theorem RDcells.of_agg {C:Pay α} {cx:Cx α} {vs:Array Value} {cs:List (D α)} (h:RD C cx (.agg vs) (.agg cs)):RDcells C cx vs.toList cs:=by
  cases h with | agg _ _ hs h1 hr =>
  exact ⟨by simpa using hs,fun i v hv=>h1 i v (by simpa using hv),fun i v c hv hc=>hr i v c (by simpa using hv) hc⟩
theorem oneCell_of_isOne {C:Pay α} {cx:Cx α} {v:Value} {d:D α} (h:RD C cx v d) (hd:isOne d=true):v.oneCell'=true:=by
  cases h<;>simp_all [isOne,Value.oneCell']
theorem cells_one {v:Value} (h:v.oneCell'=true):v.cells=#[v]:=by
  cases v<;>simp_all [Value.oneCell',Value.cells]
theorem RDcells.of_good {C:Pay α} {cx:Cx α} {v:Value} {d:D α} (h:RD C cx v d) (hd:fillD.isGood d=true):RDcells C cx v.cells.toList (cellsD d):=by
  by_cases ha:∃cs,d=.agg cs
  · obtain ⟨cs,rfl⟩:=ha
    have h':=h
    cases h with | agg vs _ hs h1 hr =>
    exact RDcells.of_agg h'
  · have h1:isOne d=true:=by cases d<;>simp_all [isOne,fillD.isGood]
    have h2:=oneCell_of_isOne h h1
    rw [cells_one h2]
    have h3:cellsD d=[d]:=by cases d<;>simp_all [cellsD]
    rw [h3]
    refine ⟨rfl,fun i v' hv=>?_,fun i v' c hv hc=>?_⟩
    · cases i<;>simp at hv
      subst hv;exact h2
    · cases i<;>simp at hv hc
      subst hv hc;exact h
def overV:List Value→Nat→List Value→List Value
  | vs,_,[]=>vs
  | vs,i,x::r=>overV (vs.set i x) (i+1) r
theorem setT_eq (tm:List (D α)) (i:Nat) (x:D α):setT tm i x=tm.set i x:=by
  induction tm generalizing i with
  | nil=>rfl
  | cons d r ih=>cases i<;>simp [setT,ih]
theorem RDcells.set {C:Pay α} {cx:Cx α} {vs:List Value} {cs:List (D α)} (h:RDcells C cx vs cs) (i:Nat) {v:Value} {d:D α} (hv:RD C cx v d) (h1:v.oneCell'=true) :
    RDcells C cx (vs.set i v) (setT cs i d):=by
  rw [setT_eq]
  refine ⟨by simp [h.1],fun k u hu=>?_,fun k u c hu hc=>?_⟩
  · by_cases hik:i=k
    · subst hik
      rw [List.getElem?_set_self'] at hu
      obtain ⟨_,_,rfl⟩:=Option.map_eq_some_iff.1 hu
      exact h1
    · rw [List.getElem?_set_ne hik] at hu
      exact h.2.1 k u hu
  · by_cases hik:i=k
    · subst hik
      rw [List.getElem?_set_self'] at hu hc
      obtain ⟨_,_,rfl⟩:=Option.map_eq_some_iff.1 hu
      obtain ⟨_,_,rfl⟩:=Option.map_eq_some_iff.1 hc
      exact hv
    · rw [List.getElem?_set_ne hik] at hu hc
      exact h.2.2 k u c hu hc
theorem RDcells.over {C:Pay α} {cx:Cx α}:∀(us:List Value) (ds:List (D α)) (vs:List Value) (cs:List (D α)) (i:Nat),RDcells C cx vs cs→RDcells C cx us ds →
    RDcells C cx (overV vs i us) (overL cs i ds)
  | [],[],vs,cs,i,h,_=>h
  | u::us,d::ds,vs,cs,i,h,hu=>by
    have h0:RD C cx u d:=hu.2.2 0 u d rfl rfl
    have h1:u.oneCell'=true:=hu.2.1 0 u rfl
    simp only [overV,overL]
    exact RDcells.over us ds _ _ (i+1) (h.set i h0 h1) ⟨by simpa using hu.1,fun k v hv=>hu.2.1 (k+1) v (by simpa using hv),fun k v c hv hc=>hu.2.2 (k+1) v c (by simpa using hv) (by simpa using hc)⟩
  | [],_::_,_,_,_,_,hu=>by simp [RDcells] at hu
  | _::_,[],_,_,_,_,hu=>by simp [RDcells] at hu
theorem overV_append (us:List Value):∀(vs:List Value) (i:Nat),i+us.length≤vs.length→overV vs i us=vs.take i++us++vs.drop (i+us.length):=by
  induction us with
  | nil=>intro vs i _;simp [overV]
  | cons u us ih =>
    intro vs i h
    simp only [List.length_cons] at h
    rw [overV,ih _ _ (by simp;omega)]
    have h1:(vs.set i u).take (i+1)=vs.take i++[u]:=by
      rw [List.take_add_one,List.take_set_of_le (Nat.le_refl _)]
      simp [List.getElem?_set]
      omega
    have h2:(vs.set i u).drop (i+1+us.length)=vs.drop (i+(us.length+1)):=by
      rw [List.drop_set_of_lt (by omega)]
      congr 1;omega
    rw [h1,h2]
    simp
theorem fold_overV (us:List Value):∀(vs:Array Value) (off k:Nat),((us.zipIdx k).foldl (fun (cs:Array Value) (x:Value×Nat)=>cs.setIfInBounds (off+x.2) x.1) vs).toList=overV vs.toList (off+k) us:=by
  induction us with
  | nil=>intro vs off k;simp [overV]
  | cons u us ih =>
    intro vs off k
    simp only [List.zipIdx_cons,List.foldl_cons,overV]
    rw [ih]
    simp [Nat.add_assoc]
theorem fold_overV' (us:Array Value) (vs:Array Value) (off:Nat):(us.zipIdx.foldl (fun (cs:Array Value) (x:Value×Nat)=>cs.setIfInBounds (off+x.2) x.1) vs).toList=overV vs.toList off us.toList:=by
  rw [←Array.foldl_toList]
  have:=fold_overV us.toList vs off 0
  simpa using this
section
variable {C:Pay α} {cx:Cx α}
theorem fillD_sound {place:Nat→Option (Nat×Nat)}:∀(ps:List (Nat×D α)) (qs:List (Nat×Value)) (cs cs':List (D α)) (vs:Array Value),qs.length=ps.length →
    (∀(i:Nat) p q,ps[i]?=some p→qs[i]?=some q→q.1=p.1∧RD C cx q.2 p.2)→RDcells C cx vs.toList cs→fillD place cs ps=some cs' →
    ∃vs',Instr.fill place vs qs=some vs'∧RDcells C cx vs'.toList cs'
  | [],[],cs,cs',vs,_,_,h,hf=>by
    simp only [fillD,Option.some.injEq] at hf
    subst hf
    exact ⟨vs,rfl,h⟩
  | (i,d)::ps,(j,v)::qs,cs,cs',vs,hl,hr,h,hf=>by
    obtain ⟨hij,hd⟩:=hr 0 (i,d) (j,v) rfl rfl
    simp only at hij hd
    subst hij
    simp only [fillD] at hf
    split at hf
    · simp at hf
    · rename_i off size hp
      cases hg:(fillD.isGood d&&Nat.beq (cellsD d).length size&&Nat.ble (off+size) cs.length) with
      | false=>simp [hg] at hf
      | true =>
      simp only [hg,cond_true] at hf
      simp only [Bool.and_eq_true] at hg
      obtain ⟨⟨hg1,hg2⟩,hg3⟩:=hg
      have hg2:=Nat.eq_of_beq_eq_true hg2
      have hg3:=Nat.le_of_ble_eq_true hg3
      have hc:=RDcells.of_good hd hg1
      have hsz:v.cells.size=size:=by have:=hc.1;simp at this;omega
      have hvs:vs.size=cs.length:=by simpa using h.1
      have hov:=RDcells.over _ _ _ _ off h hc
      rw [←fold_overV'] at hov
      obtain ⟨vs',h1,h2⟩:=fillD_sound ps qs _ cs' _ (by simpa using hl) (fun k p q hp hq=>hr (k+1) p q (by simpa using hp) (by simpa using hq)) hov hf
      refine ⟨vs',?_,h2⟩
      simp only [Instr.fill,hp]
      rw [if_neg (by simp;omega)]
      exact h1
  | [],_::_,_,_,_,hl,_,_,_=>by simp at hl
  | _::_,[],_,_,_,hl,_,_,_=>by simp at hl
theorem run_zero {P:Program} (w:World) {t:TypeId} {z:Value} (h:(P.info? t).bind (·.zero)=some z):(zeroValue t).run P w=.ok z w:=by
  cases hi:P.info? t with
  | none=>simp [hi] at h
  | some i=>simp only [hi,Option.bind_some] at h;simp [zeroValue,typeInfo,hi,h]
theorem zeroD_some {P:Program} {t:TypeId} {d:D α} (h:zeroD P t=some d):∃z,(P.info? t).bind (·.zero)=some z∧d=ofV z:=by
  unfold zeroD at h
  split at h
  · rename_i v hv;simp only [Option.some.injEq] at h;exact ⟨v,hv,h.symm⟩
  · simp at h
theorem buildD_sound (P:Program) (w:World) (t:TypeId) (ps:List (Nat×D α)) (qs:Array (Nat×Value)) (hl:qs.size=ps.length)
    (hr:∀(i:Nat) p q,ps[i]?=some p→qs[i]?=some q→q.1=p.1∧RD C cx q.2 p.2) (r:Res α) (hb:buildD P t ps=r) (hok:r.ok=true) :
    ∃v,(Instr.build t qs).run P w=.ok v w∧RD C cx v r.d∧r.ch=none:=by
  have hr':∀(i:Nat) p q,ps[i]?=some p→qs.toList[i]?=some q→q.1=p.1∧RD C cx q.2 p.2:=fun i p q hp hq=>hr i p q hp (by simpa using hq)
  unfold buildD at hb
  split at hb
  · rename_i z fs hz hu
    obtain ⟨zv,hzv,hze⟩:=zeroD_some hz
    have hzr:RD C cx zv (.agg z):=by rw [hze];exact ofV_sound C cx zv
    split at hb
    · rename_i cs hf
      subst hb
      have hzr':=hzr
      cases hzr with | agg zvs _ _ _ _ =>
      have hall:fs.toList.all (fun f=>(szO P f.type).isSome)=true:=hok
      have hplaces:(fs.mapM (fun f=>do pure (f.offset,←sizeOf f.type)):Sem (Array (Nat×Nat))).run P w=.ok (fs.map fun f=>(f.offset,(szO P f.type).getD 0)) w:=by
        rw [Array.mapM_eq_mapM_toList]
        have:∀l:List Field,l.all (fun f=>(szO P f.type).isSome)=true→(l.mapM (fun f=>do pure (f.offset,←sizeOf f.type)):Sem (List (Nat×Nat))).run P w=.ok (l.map fun f=>(f.offset,(szO P f.type).getD 0)) w:=by
          intro l
          induction l with
          | nil=>intro _;simp
          | cons f l ih =>
            intro hl
            simp only [List.all_cons,Bool.and_eq_true] at hl
            obtain ⟨n,hn⟩:=Option.isSome_iff_exists.1 hl.1
            have ih:=ih hl.2
            simp only [List.mapM_cons,Sem.run_bind,run_sizeOf' P w hn,Result.andThen_ok,Sem.run_pure,ih,List.map_cons,hn,Option.getD_some]
        simp only [Sem.run_map,this fs.toList hall,Result.andThen_ok]
        congr 1
        exact Array.ext' (by simp)
      obtain ⟨vs',h1,h2⟩:=fillD_sound (place:=fun i=>match fs.toList[i]? with
        | some f=>match szO P f.type with
          | some n=>some (f.offset,n)
          | none=>none
        | none=>none) ps qs.toList z cs zvs (by simpa using hl) hr' (RDcells.of_agg hzr') hf
      refine ⟨.agg vs',?_,RDcells.agg h2,rfl⟩
      have hplace:(fun (i:Nat)=>(fs.map fun (f:Field)=>(f.offset,(szO P f.type).getD 0))[i]?)=(fun (i:Nat)=>match fs.toList[i]? with
        | some f=>match szO P f.type with
          | some n=>some (f.offset,n)
          | none=>none
        | none=>none):=by
        funext i
        simp only [Array.getElem?_map,Array.getElem?_toList]
        cases hfi:fs[i]? with
        | none=>rfl
        | some f =>
          have hm:f∈fs.toList:=by simpa using Array.mem_of_getElem? hfi
          obtain ⟨n,hn⟩:=Option.isSome_iff_exists.1 (List.all_eq_true.1 hall f hm)
          simp [hn]
      simp only [Instr.build,Sem.run_bind,run_zero w hzv,Result.andThen_ok,Value.cells,run_underlying hu,hplaces,hplace,h1,Sem.run_pure]
    · subst hb;simp [Res.no] at hok
  · rename_i z n e hz hu
    obtain ⟨zv,hzv,hze⟩:=zeroD_some hz
    have hzr:RD C cx zv (.agg z):=by rw [hze];exact ofV_sound C cx zv
    split at hb
    · rename_i m hm
      split at hb
      · rename_i cs hf
        subst hb
        have hzr':=hzr
        cases hzr with | agg zvs _ _ _ _ =>
        obtain ⟨vs',h1,h2⟩:=fillD_sound (place:=fun i=>some (i * m,m)) ps qs.toList z cs zvs (by simpa using hl) hr' (RDcells.of_agg hzr') hf
        refine ⟨.agg vs',?_,RDcells.agg h2,rfl⟩
        simp only [Instr.build,Sem.run_bind,run_zero w hzv,Result.andThen_ok,Value.cells,run_underlying hu,run_sizeOf' P w hm,h1,Sem.run_pure]
      · subst hb;simp [Res.no] at hok
    · subst hb;simp [Res.no] at hok
  · subst hb;simp [Res.no] at hok
end
end Go.Eng
