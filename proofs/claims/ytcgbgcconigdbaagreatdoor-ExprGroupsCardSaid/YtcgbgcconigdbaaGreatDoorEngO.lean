/-
 THE ENGINE, PART N: CONVERSIONS; LITERALS OF SLICES; ONE OPERATION.
-/
import Derived.Test.YtcgbgcconigdbaaGreatDoorEngN
import Derived.Laws.IdiomStrings
namespace Go.Eng
open Go.RowKit
variable {α:Type}
section
variable {X:Ctx α} (hX:XOk X) {g:Gh} {tm:List (D α)} {hs:Obs α} {a:Act} {w:World} (hS:Sim X g tm hs a w)
theorem bytes_back {C:Pay α} (hC:PayOk C) {cx:Cx α} (P:Program) {src dst e:TypeId} {ad:Option Addr} {n c:Nat} {p:α} {k:SK} {l:List UInt8} (hb:C.bytes p=some l) (h:RD C cx (.slice ad n c) (.pl p k))
  (h1:P.underlying src=some (.slice e)) (h2:P.underlying e=some (.int .u8)) (h3:P.underlying dst=some .string) :
  ∃s:ByteArray,(convert src dst (.slice ad n c)).run P cx.w=.ok (.string s) cx.w∧s.data.toList=l∧l.length≤big:=by
 obtain ⟨b1,b2,b3⟩:=hC.bytes p l hb
 cases h with
 | pl0 _ _ _ _ hl hk =>
  have hl0:l=[]:=List.eq_nil_of_length_eq_zero (by omega)
  subst hl0
  refine ⟨ByteArray.empty,?_,rfl,by simp⟩
  cases ad with
  | none=>rw [run_convert_bytes_string cx.w src dst e none 0 c h1 h2 h3];rfl
  | some ad =>
   exact run_convert_bytes_back (P:=P) cx.w src dst e ad c [] h1 h2 h3 (fun j hj=>by simp at hj)
 | pl b off _ _ _ _ vs hn hc hbg hk hav hcell h1c hrd =>
  subst hn
  have:=run_convert_bytes_back (P:=P) cx.w src dst e ⟨b,off,none⟩ c l h1 h2 h3 (fun j hj=>by
   rw [add_zero']
   have he:=b3 j hj
   have hd:(C.elem p j)[0]?=some (.int .u8 l[j].toNat):=by rw [he];rfl
   have h4:=hcell j 0 _ (by omega) hd
   have h5:=hrd j 0 _ (by omega) hd
   rw [b2,Nat.mul_one,Nat.add_zero] at h4
   rw [h4]
   generalize vs j 0=v at h5
   cases h5
   rfl)
  rw [←b1] at this
  refine ⟨_,this,by simp,?_⟩
  rw [←b1]
  exact bys_pos_len (hC.bpos p) hbg
theorem zu8_spec {P:Program} {t:TypeId} (h:zu8 P t=true):∃i,P.info? t=some i∧i.zero=some (.int .u8 0)∧i.size=1∧i.bytes=1:=by
 unfold zu8 at h
 split at h
 ·rename_i i hi
  split at h
  ·rename_i n hz
   simp only [Bool.and_eq_true,beq_iff_eq] at h
   obtain ⟨⟨rfl,h2⟩,h3⟩:=h
   exact ⟨i,hi,hz,Nat.eq_of_beq_eq_true h2,Nat.eq_of_beq_eq_true h3⟩
  ·simp at h
 ·simp at h
theorem zi64_spec {P:Program} {t:TypeId} (h:zi64 P t=true):∃i,P.info? t=some i∧i.zero=some (.int .i64 0)∧i.size=1∧i.bytes=8:=by
 unfold zi64 at h
 split at h
 ·rename_i i hi
  split at h
  ·rename_i n hz
   simp only [Bool.and_eq_true,beq_iff_eq] at h
   obtain ⟨⟨rfl,h2⟩,h3⟩:=h
   exact ⟨i,hi,hz,Nat.eq_of_beq_eq_true h2,Nat.eq_of_beq_eq_true h3⟩
  ·simp at h
 ·simp at h
theorem zboo_spec {P:Program} {t:TypeId} (h:zboo P t=true):∃i,P.info? t=some i∧i.zero=some (.bool false)∧i.size=1∧i.bytes=1:=by
 unfold zboo at h
 split at h
 ·rename_i i hi
  split at h
  ·rename_i b hz
   simp only [Bool.and_eq_true,Bool.not_eq_true'] at h
   obtain ⟨⟨rfl,h2⟩,h3⟩:=h
   exact ⟨i,hi,hz,Nat.eq_of_beq_eq_true h2,Nat.eq_of_beq_eq_true h3⟩
  ·simp at h
 ·simp at h
theorem made_one {z:Value} (hz:z.cells=#[z]) (n j:Nat) (v:Value) (h:(madeCells z.cells n)[j]?=some v):v=z:=by
 unfold madeCells at h
 rw [Array.getElem?_map] at h
 obtain ⟨k,_,rfl⟩:=Option.map_eq_some_iff.1 h
 rw [hz]
 have:k % (#[z]:Array Value).size=0:=Nat.mod_one k
 rw [this]
 rfl
include hX hS in
theorem makeSliceD_sound (dst:Nat) (t:TypeId) (x y:D α) (vx vy:Value) (hx:RD X.C (cxOf g hs w) vx x) (hy:RD X.C (cxOf g hs w) vy y) (r:Res α) (hr:makeSliceD X tm hs dst t x y=r) (hok:r.ok=true) :
  ∃v w',(Instr.makeSlice t vx vy).run X.P w=.ok v w'∧OpOut X g tm hs a r v w':=by
 unfold makeSliceD at hr
 split at hr
 ·rename_i e k n k' m hu
  cases hz8:zu8 X.P e with
  | true =>
   rw [hz8,cond_true] at hr
   split at hr
   ·rename_i p hp
    subst hr
    simp only [Bool.and_eq_true,decide_eq_true_eq,beq_iff_eq] at hok
    obtain ⟨hdst,⟨⟨hz,h0⟩,rfl⟩,hb⟩:=hok
    cases hx with | int _ _ _ =>
    cases hy with | int _ _ _ =>
    have hb:=Nat.le_of_ble_eq_true hb
    obtain ⟨i,hi,hiz,his,hib⟩:=zu8_spec hz8
    have hrun:=run_make (P:=X.P) w t e i _ hu hi hiz k k' n n h0 (Int.le_refl _) (by rw [hib];unfold big at hb;omega) (by unfold big at hb;omega)
    obtain ⟨o1,o2⟩:=hX.pay.ofBytes t _ p hp
    obtain ⟨b1,b2,b3⟩:=hX.pay.bytes p _ o1
    have hl:X.C.len p=n.toNat:=by rw [b1,List.length_replicate]
    refine ⟨_,_,hrun,bind1 g.rho dst (some w.heap.size),?_,?_⟩
    ·refine new_sound hX hS dst dst hdst (.arr false p) _ w (BelowD.refl _ _) rfl fun cx _ hh=>?_
     refine ⟨_,e,hh,?_,?_,fun j v hv=>?_,fun i' j v d hi' hv hd=>?_⟩
     ·rw [size_madeCells,hl,b2,his];exact Nat.le_refl _
     ·rw [hl,o2,Nat.mul_one];exact hb
     ·rw [made_one rfl _ _ _ hv];rfl
     ·rw [made_one rfl _ _ _ hv]
      rw [b3 i' (by omega)] at hd
      obtain rfl:j=0:=by cases j with | zero=>rfl | succ j=>simp at hd
      simp only [List.getElem?_cons_zero,Option.some.injEq,List.getElem_replicate] at hd
      subst hd
      exact .int _ _ (inR_u8 0)
    ·refine .arrO dst w.heap.size p _ _ (by simp [cxOf,look_rebind,bind1]) hl.symm (Nat.le_refl _) ⟨_,e,(0,0),heap_alloc_new' w _,?_⟩
     rw [size_madeCells,b2,his];exact Nat.le_refl _
   ·subst hr;simp [Res.no] at hok
  | false =>
   rw [hz8,cond_false] at hr
   split at hr
   ·rename_i p hp
    subst hr
    simp only [Bool.and_eq_true,Bool.or_eq_true,decide_eq_true_eq,beq_iff_eq] at hok
    obtain ⟨hdst,⟨⟨hz,h0⟩,rfl⟩,hb⟩:=hok
    cases hx with | int _ _ _ =>
    cases hy with | int _ _ _ =>
    have hb:=Nat.le_of_ble_eq_true hb
    obtain ⟨r1,b2,r3⟩:=hX.pay.rep t _ p hp
    rcases hz with ⟨hz,hby⟩ | ⟨hz,hby⟩
    ·have o2:=Nat.eq_of_beq_eq_true hby
     obtain ⟨i,hi,hiz,his,hib⟩:=zi64_spec hz
     have b3:∀i,i < n.toNat→X.C.elem p i=[.int .i64 0]:=by
      rcases r3 with ⟨_,h⟩ | ⟨h,_⟩
      ·exact h
      ·omega
     have hrun:=run_make (P:=X.P) w t e i _ hu hi hiz k k' n n h0 (Int.le_refl _) (by rw [hib];unfold big at hb;omega) (by unfold big at hb;omega)
     have hl:X.C.len p=n.toNat:=r1
     refine ⟨_,_,hrun,bind1 g.rho dst (some w.heap.size),?_,?_⟩
     ·refine new_sound hX hS dst dst hdst (.arr false p) _ w (BelowD.refl _ _) rfl fun cx _ hh=>?_
      refine ⟨_,e,hh,?_,?_,fun j v hv=>?_,fun i' j v d hi' hv hd=>?_⟩
      ·rw [size_madeCells,hl,b2,his];exact Nat.le_refl _
      ·rw [hl,o2];exact hb
      ·rw [made_one rfl _ _ _ hv];rfl
      ·rw [made_one rfl _ _ _ hv]
       rw [b3 i' (by omega)] at hd
       obtain rfl:j=0:=by cases j with | zero=>rfl | succ j=>simp at hd
       simp only [List.getElem?_cons_zero,Option.some.injEq] at hd
       subst hd
       exact .int _ _ (by decide)
     ·refine .arrO dst w.heap.size p _ _ (by simp [cxOf,look_rebind,bind1]) hl.symm (Nat.le_refl _) ⟨_,e,(0,0),heap_alloc_new' w _,?_⟩
      rw [size_madeCells,b2,his];exact Nat.le_refl _
    ·have o2:=Nat.eq_of_beq_eq_true hby
     obtain ⟨i,hi,hiz,his,hib⟩:=zboo_spec hz
     have b3:∀i,i < n.toNat→X.C.elem p i=[.bool false]:=by
      rcases r3 with ⟨h,_⟩ | ⟨_,h⟩
      ·omega
      ·exact h
     have hb:n.toNat≤big:=by omega
     have hrun:=run_make (P:=X.P) w t e i _ hu hi hiz k k' n n h0 (Int.le_refl _) (by rw [hib];unfold big at hb;omega) (by unfold big at hb;omega)
     have hl:X.C.len p=n.toNat:=r1
     refine ⟨_,_,hrun,bind1 g.rho dst (some w.heap.size),?_,?_⟩
     ·refine new_sound hX hS dst dst hdst (.arr false p) _ w (BelowD.refl _ _) rfl fun cx _ hh=>?_
      refine ⟨_,e,hh,?_,?_,fun j v hv=>?_,fun i' j v d hi' hv hd=>?_⟩
      ·rw [size_madeCells,hl,b2,his];exact Nat.le_refl _
      ·rw [hl,o2,Nat.mul_one];exact hb
      ·rw [made_one rfl _ _ _ hv];rfl
      ·rw [made_one rfl _ _ _ hv]
       rw [b3 i' (by omega)] at hd
       obtain rfl:j=0:=by cases j with | zero=>rfl | succ j=>simp at hd
       simp only [List.getElem?_cons_zero,Option.some.injEq] at hd
       subst hd
       exact .bool _
     ·refine .arrO dst w.heap.size p _ _ (by simp [cxOf,look_rebind,bind1]) hl.symm (Nat.le_refl _) ⟨_,e,(0,0),heap_alloc_new' w _,?_⟩
      rw [size_madeCells,b2,his];exact Nat.le_refl _
   ·subst hr;simp [Res.no] at hok
 ·subst hr;simp [Res.no] at hok
include hX hS in
theorem convD_sound (s t:TypeId) (x:D α) (vx:Value) (hx:RD X.C (cxOf g hs w) vx x) (r:Res α) (hr:convD X hs s t x=r) (hok:r.ok=true) :
  ∃v w',(convert s t vx).run X.P w=.ok v w'∧OpOut X g tm hs a r v w':=by
 have hno:(Res.no:Res α).ok=true→False:=by simp [Res.no]
 unfold convD at hr
 split at hr
 ·rename_i d k k0 n hs' ht
  cases hx with | int _ _ hR =>
  subst hr
  refine ⟨.int k (k.wrap n),w,?_,OpOut.pure hX hS rfl (.int _ _ (inR_wrap _ _))⟩
  simp [convert,run_underlying hs',run_underlying ht,Conv.intToInt]
 ·rename_i d l hs' ht
  cases hx with | str s0 _ h1 h2 =>
  subst hr
  refine ⟨.string s0,w,?_,OpOut.pure hX hS rfl (.str _ _ h1 h2)⟩
  simp [convert,run_underlying hs',run_underlying ht]
 ·rename_i e l hs' ht
  cases hx with | str s0 _ h1 h2 =>
  split at hr
  ·rename_i p he hp hsz
   subst hr
   subst h1
   obtain ⟨o1,o2⟩:=hX.pay.ofBytes t _ p hp
   obtain ⟨b1,b2,b3⟩:=hX.pay.bytes p _ o1
   have hrun:=run_bytes_of_string (P:=X.P) w s t e s0 hs' ht he
   have hbel:BelowD X.C.dr w.heap.size w (w.drew.alloc (.cells (bytesRow s0 (grownCap w s0.size 0 e)) e ((bytesRow s0 (grownCap w s0.size 0 e)).size,(bytesRow s0 (grownCap w s0.size 0 e)).size+1))) :=
    (drew_below w).alloc (Nat.le_refl _) _
   refine ⟨_,_,hrun,OpOut.quiet hX hS hbel rfl ?_⟩
   have hsize:s0.size=X.C.len p:=by rw [b1,size_len]
   rw [hsize] at *
   have hlen:X.C.len p≤grownCap w (X.C.len p) 0 e:=grownCap_ge w _ 0 e
   refine .pl w.heap.size 0 _ _ p .any (fun i _=>.int .u8 (s0.data.toList.getD i 0).toNat) rfl hlen ?_ trivial ?_ (fun i j d hi hd=>?_) (fun i j d hi hd=>rfl) (fun i j d hi hd=>?_) True.intro (fun ha=>by rw [hX.pay.albytes p _ o1] at ha;cases ha)
   ·rw [o2,Nat.mul_one,b1];exact h2
   ·rintro (h | ⟨o,ob,hl,_,hr⟩)
    ·have:=hS.av0 _ h;have:=hS.below.size;omega
    ·have:=(hS.own o ob _ hl hr).2;omega
   ·rw [b3 i (by omega)] at hd
    obtain rfl:j=0:=by cases j with | zero=>rfl | succ j=>simp at hd
    show (w.drew.alloc _).cell? ⟨w.drew.heap.size,_,none⟩=_
    rw [b2,World.cell?_alloc_mark]
    have hi':i < s0.data.size:=by rw [b1] at hi;simpa using hi
    unfold bytesRow
    rw [Array.getElem?_append_left (by simpa using hi')]
    simp only [Nat.mul_one,Nat.zero_add,Nat.add_zero,Array.getElem?_map,Array.getElem?_eq_getElem hi',Option.map_some,List.getD_eq_getElem?_getD,Array.getElem?_toList,Option.getD_some]
   ·rw [b3 i (by omega)] at hd
    obtain rfl:j=0:=by cases j with | zero=>rfl | succ j=>simp at hd
    simp only [List.getElem?_cons_zero,Option.some.injEq] at hd
    subst hd
    have hi':i < s0.data.toList.length:=by omega
    rw [List.getD_eq_getElem?_getD,List.getElem?_eq_getElem hi',Option.getD_some]
    exact .int _ _ (inR_u8 _)
  ·subst hr;exact (hno hok).elim
 ·rename_i e hs' ht _
  split at hr
  ·rename_i he _ _
   cases hx
   subst hr
   refine ⟨.string ByteArray.empty,w,?_,OpOut.pure hX hS rfl (.str _ _ rfl (by simp))⟩
   rw [run_convert_bytes_string w s t e none 0 0 hs' he ht];rfl
  ·rename_i p k he _ _
   split at hr
   ·rename_i l hb
    subst hr
    obtain ⟨ad,nn,c,rfl⟩:∃ad nn c,vx=.slice ad nn c:=by cases hx<;>exact ⟨_,_,_,rfl⟩
    obtain ⟨s0,h1,h2,h3⟩:=bytes_back hX.pay X.P hb hx hs' he ht
    exact ⟨_,_,h1,OpOut.pure hX hS rfl (.str _ _ h2 h3)⟩
   ·subst hr;exact (hno hok).elim
  ·rename_i o he _ _
   split at hr
   ·rename_i fz p hlo
    split at hr
    ·rename_i l hb
     subst hr
     have hx0:=(lend_sound hX hS (avBut g hs w [o]) avBut_av 40).1 (.arr o) vx (.pl p .any) [o] hx (by simp [lend,hlo]) avBut_ns
     obtain ⟨ad,nn,c,rfl⟩:∃ad nn c,vx=.slice ad nn c:=by cases hx0<;>exact ⟨_,_,_,rfl⟩
     obtain ⟨s0,h1,h2,h3⟩:=bytes_back hX.pay X.P hb hx0 hs' he ht
     exact ⟨_,_,h1,OpOut.pure hX hS rfl (.str _ _ h2 h3)⟩
    ·subst hr;exact (hno hok).elim
   ·subst hr;exact (hno hok).elim
  ·subst hr;exact (hno hok).elim
 ·subst hr;exact (hno hok).elim
theorem snocs_spec {C:Pay α} (hC:PayOk C):∀(rows:List (List (D α))) (p q:α),snocs C p rows=some q→C.len q=C.len p+rows.length∧C.esz q=C.esz p∧C.bys q=C.bys p ∧
  (∀i,i < C.len p→C.elem q i=C.elem p i)∧∀(i j:Nat) row d d',rows[i]?=some row→row[j]?=some d→(C.elem q (C.len p+i))[j]?=some d'→Dle C d d'
 | [],p,q,h=>by
  simp only [snocs,Option.some.injEq] at h
  subst h
  exact ⟨rfl,rfl,rfl,fun _ _=>rfl,fun i j row d d' h=>by simp at h⟩
 | r::rows,p,q,h=>by
  simp only [snocs] at h
  split at h
  ·rename_i p1 h1
   obtain ⟨a1,a2,a3,a4,a5,a6⟩:=hC.snoc p r p1 h1
   obtain ⟨b1,b2,b3,b4,b5⟩:=snocs_spec hC rows p1 q h
   refine ⟨by rw [b1,a1,List.length_cons];omega,by rw [b2,a2],by rw [b3,a3],fun i hi=>by rw [b4 i (by omega),a4 i hi],fun i j row d d' hi hj hd=>?_⟩
   cases i with
   | zero =>
    simp only [List.getElem?_cons_zero,Option.some.injEq] at hi
    subst hi
    rw [Nat.add_zero,b4 _ (by omega)] at hd
    exact a6 j d d' hj hd
   | succ i =>
    have:C.len p+(i+1)=C.len p1+i:=by omega
    rw [this] at hd
    exact b5 i j row d d' (by simpa using hi) hj hd
  ·simp at h
theorem overV_length:∀(us vs:List Value) (i:Nat),(overV vs i us).length=vs.length
 | [],_,_=>rfl
 | u::us,vs,i=>by rw [overV,overV_length us];simp
theorem rows_fill {C:Pay α} {cx:Cx α} (n:Nat):∀(ps:List (Nat×D α)) (qs:List (Nat×Value)) (i:Nat) (rows:List (List (D α))) (vs:Array Value),qs.length=ps.length →
    (∀(k:Nat) p q,ps[k]?=some p→qs[k]?=some q→q.1=p.1∧RD C cx q.2 p.2)→rowsOf n i ps=some rows→(i+ps.length) * n≤vs.size→(∀u∈vs,u.oneCell'=true) →
    rows.length=ps.length∧∃vs',Instr.fill (fun k=>some (k * n,n)) vs qs=some vs'∧vs'.size=vs.size∧(∀u∈vs',u.oneCell'=true)∧(∀k,k < i * n→vs'[k]?=vs[k]?) ∧
      ∀(k j:Nat) row d u,rows[k]?=some row→row[j]?=some d→vs'[(i+k) * n+j]?=some u→RD C cx u d
  | [],[],i,rows,vs,_,_,h,_,hv=>by
    simp only [rowsOf,Option.some.injEq] at h
    subst h
    exact ⟨rfl,vs,rfl,rfl,hv,fun _ _=>rfl,fun k j row d u h=>by simp at h⟩
  | (m,d)::ps,(m',v)::qs,i,rows,vs,hl,hr,h,hsz,hv=>by
    obtain ⟨hmm,hd⟩:=hr 0 (m,d) (m',v) rfl rfl
    simp only at hmm hd
    subst hmm
    simp only [rowsOf] at h
    cases hg:(Nat.beq i m'&&fillD.isGood d&&Nat.beq (cellsD d).length n) with
    | false=>simp [hg] at h
    | true =>
    simp only [hg,cond_true] at h
    simp only [Bool.and_eq_true] at hg
    obtain ⟨⟨hg1,hg2⟩,hg3⟩:=hg
    obtain rfl:=Nat.eq_of_beq_eq_true hg1
    have hg3:=Nat.eq_of_beq_eq_true hg3
    split at h
    · rename_i l hl0
      simp only [Option.some.injEq] at h
      subst h
      have hc:=RDcells.of_good hd hg2
      have hvc:v.cells.size=n:=by have:=hc.1;simp at this;omega
      simp only [List.length_cons] at hsz
      have hroom:i * n+n≤vs.size:=by
        have:(i+1) * n≤(i+(ps.length+1)) * n:=Nat.mul_le_mul_right _ (by omega)
        rw [Nat.add_mul,Nat.one_mul] at this;omega
      have hfold:=fold_overV' v.cells vs (i * n)
      generalize hA:(v.cells.zipIdx.foldl (fun (cs:Array Value) (x:Value×Nat)=>cs.setIfInBounds (i * n+x.2) x.1) vs)=A at hfold
      have hAs:A.size=vs.size:=by
        have:=congrArg List.length hfold
        rw [overV_length] at this
        simpa using this
      have hA1:∀u∈A,u.oneCell'=true:=by
        intro u hu
        obtain ⟨k,hk⟩:=List.mem_iff_getElem?.1 (Array.mem_toList_iff.2 hu)
        rw [hfold,overV_get _ _ _ _ (by simp;omega)] at hk
        split at hk
        · exact hc.2.1 _ _ hk
        · exact hv u (Array.mem_toList_iff.1 (List.mem_of_getElem? hk))
      obtain ⟨ih1,vs',ih2,ih3,ih4,ih5,ih6⟩:=rows_fill n ps qs (i+1) l A (by simpa using hl) (fun k p q hp hq=>hr (k+1) p q (by simpa using hp) (by simpa using hq)) hl0
        (by rw [hAs];have:i+1+ps.length=i+(ps.length+1):=by omega
            rw [this];exact hsz) hA1
      refine ⟨by simp [ih1],vs',?_,by rw [ih3,hAs],ih4,fun k hk=>?_,fun k j row d0 u hk hj hu=>?_⟩
      · simp only [Instr.fill]
        rw [if_neg (by simp;omega),hA]
        exact ih2
      · rw [ih5 k (by rw [Nat.add_mul];omega)]
        have h1:A[k]?=A.toList[k]?:=by simp
        rw [h1,hfold,overV_get _ _ _ _ (by simp;omega),if_neg (by omega)]
        simp
      · cases k with
        | zero =>
          simp only [List.getElem?_cons_zero,Option.some.injEq] at hk
          subst hk
          have hjn:j < n:=by
            rw [←hg3]
            rcases Nat.lt_or_ge j (cellsD d).length with h | h
            · exact h
            · simp [List.getElem?_eq_none h] at hj
          rw [Nat.add_zero,ih5 _ (by rw [Nat.add_mul];omega)] at hu
          have h1:A[i * n+j]?=A.toList[i * n+j]?:=by simp
          rw [h1,hfold,overV_get _ _ _ _ (by simp;omega),if_pos (by simp;omega),Nat.add_sub_cancel_left] at hu
          exact hc.2.2 j u d0 hu hj
        | succ k =>
          have:i+(k+1)=i+1+k:=by omega
          rw [this] at hu
          exact ih6 k j row d0 u (by simpa using hk) hj hu
    · simp at h
  | [],_::_,_,_,_,hl,_,_,_,_=>by simp at hl
  | _::_,[],_,_,_,hl,_,_,_,_=>by simp at hl
end
end Go.Eng
namespace Go.Eng
open Go.RowKit
variable {α:Type}
section
variable {X:Ctx α} (hX:XOk X) {g:Gh} {tm:List (D α)} {hs:Obs α} {a:Act} {w:World} (hS:Sim X g tm hs a w)
include hX hS in
theorem arr_row {o b:Nat} {fz:Bool} {p:α} (hl:look hs o=some (.arr fz p)) (hrho:g.rho o=some b):RowAt X.C (cxOf g hs w) b 0 p:=by
 have hob:=hS.obs o _ hl
 rw [hrho] at hob
 obtain ⟨cells,T,hh,hsz,hbg,hc1,hcr⟩:=hob
 intro i j d hi hd
 have hj:j < X.C.esz p:=by
  rw [←hX.pay.elen p i hi]
  rcases Nat.lt_or_ge j (X.C.elem p i).length with h | h
  ·exact h
  ·simp [List.getElem?_eq_none h] at hd
 have hlt:i * X.C.esz p+j < cells.size:=by
  have:(i+1) * X.C.esz p≤X.C.len p * X.C.esz p:=Nat.mul_le_mul_right _ hi
  rw [Nat.add_mul,Nat.one_mul] at this;omega
 have hv:cells[i * X.C.esz p+j]?=some cells[i * X.C.esz p+j]:=by simp [hlt]
 refine ⟨_,?_,hc1 _ _ hv,hcr i j _ d hi hv hd⟩
 show w.cell? _=_
 rw [Nat.zero_add,cell_at (w:=w) hh];exact hv
theorem pl_row {C:Pay α} {cx:Cx α} {ad:Option Addr} {n c:Nat} {p:α} {k:SK} (h:RD C cx (.slice ad n c) (.pl p k)):Src C cx (.slice ad n c) p:=by
 cases h with
 | pl0 _ _ _ _ hl hk=>exact ⟨ad,c,by rw [hl],fun h=>by omega⟩
 | pl b off _ _ _ _ vs hn hc hb hk hav hcell h1 hrd =>
  subst hn
  exact ⟨_,c,rfl,fun _=>⟨b,off,rfl,fun i j d hi hd=>⟨vs i j,hcell i j d hi hd,h1 i j d hi hd,hrd i j d hi hd⟩⟩⟩
include hX hS in
theorem srcOf_sound {y:D α} {vy:Value} {p0 q:α} (h0:X.C.len p0=0) (hy:RD X.C (cxOf g hs w) vy y) (h:srcOf X.C hs p0 y=some q):Src X.C (cxOf g hs w) vy q:=by
 unfold srcOf at h
 split at h
 ·simp only [Option.some.injEq] at h
  subst h
  cases hy
  exact ⟨none,0,by rw [h0],fun h=>by omega⟩
 ·simp only [Option.some.injEq] at h
  subst h
  obtain ⟨ad,n,c,rfl⟩:∃ad n c,vy=.slice ad n c:=by cases hy<;>exact ⟨_,_,_,rfl⟩
  exact pl_row hy
 ·rename_i o
  split at h
  ·rename_i fz p hl
   simp only [Option.some.injEq] at h
   subst h
   have har:=arr_of (g:=g) (w:=w) hl
   cases hy with
   | arrO _ b p' n c ho hn hc hz =>
    rw [har] at ho
    simp only [Option.some.injEq,Prod.mk.injEq] at ho
    obtain ⟨hrho,rfl⟩:=ho
    subst hn
    exact ⟨_,c,rfl,fun _=>⟨b,0,rfl,arr_row hX hS hl hrho⟩⟩
   | arrN _ p' a' ho hn =>
    rw [har] at ho
    simp only [Option.some.injEq,Prod.mk.injEq] at ho
    obtain ⟨hrho,rfl⟩:=ho
    exact ⟨a',0,by rw [hn],fun h=>by omega⟩
  ·simp at h
 ·simp at h
include hX hS in
theorem appendD_sound (dst:Nat) (t t2 ty:TypeId) (x y:D α) (vx vy:Value) (hx:RD X.C (cxOf g hs w) vx x) (hy:RD X.C (cxOf g hs w) vy y) (r:Res α) (hr:appendD X hs tm dst t t2 x y=r) (hok:r.ok=true) :
  ∃v w',(Builtin.append_ #[t,t2] ty #[vx,vy]).run X.P w=.ok v w'∧OpOut X g tm hs a r v w':=by
 have hno:(Res.no:Res α).ok=true→False:=by simp [Res.no]
 unfold appendD at hr
 split at hr
 ·rename_i e ht
  split at hr
  ·rename_i n by_ p0 hn hby hemp
   have h0:=hX.pay.emp t p0 hemp
   split at hr
   ·rename_i q hq
    have hsrc:SrcR X.P X.C (cxOf g hs w) t t2 ty e vy q:=by
     unfold srcD at hq
     cases htt:Nat.beq t t2 with
     | true =>
      obtain rfl:=Nat.eq_of_beq_eq_true htt
      rw [htt,cond_true] at hq
      exact Src.runs hX.pay ht hn (srcOf_sound hX hS h0 hy hq)
     | false =>
      rw [htt,cond_false] at hq
      unfold strSrc at hq
      split at hq
      ·split at hq
       ·rename_i hu
        cases hy with
        | str s _ h1 h2 =>
         subst h1
         exact Str.runs hX.pay ht hu hn hq
       ·simp at hq
      ·simp at hq
    split at hr
    ·cases hx
     exact appendTo_sound hX hS dst dst n by_ t t2 ty e _ p0 q _ vy (.none none rfl h0) hsrc ht hn hby (fun h=>h) r hr hok
    ·rename_i p
     have hz:∀(b:Bool),(zsz X.P e&&b)=true→zsz X.P e=true:=by intro b h;simp only [Bool.and_eq_true] at h;exact h.1
     have hbase:Base X g hs w dst vx p (X.C.len q):=by
      have hlens:zeroLen (X.C.len p)=true∨¬ zeroLen (X.C.len q)=true:=by
       have hr':=hr
       unfold appendTo at hr'
       split at hr'
       ·subst hr'
        simp only [Bool.and_eq_true,Bool.or_eq_true,Bool.not_eq_true'] at hok
        rcases hok.2.1.1.1.1.2 with h | h
        ·exact .inl h
        ·exact .inr (by rw [h];simp)
       ·subst hr';exact (hno hok).elim
      cases hx with
      | pl0 ad c _ _ hl hk =>
       simp only [okK] at hk
       subst hk
       exact .none ad rfl hl
      | pl b off nn c _ _ vs hnn hc hbg hk hav hcell h1 hrd =>
       simp only [okK] at hk
       subst hk hnn
       by_cases hp0:X.C.len p=0
       ·rw [hp0];exact .none _ rfl hp0
       ·refine .full b off rfl (fun i j d hi hd=>⟨vs i j,hcell i j d hi hd,h1 i j d hi hd,hrd i j d hi hd⟩) ?_
        rcases hlens with h | h
        ·exact absurd (zeroLen_of h) hp0
        ·rcases Nat.eq_zero_or_pos (X.C.len q) with h' | h'
         ·exact absurd (by rw [h'];rfl) h
         ·exact h'
     exact appendTo_sound hX hS dst dst n by_ t t2 ty e _ p q vx vy hbase hsrc ht hn hby (hz _) r hr hok
    ·rename_i o
     split at hr
     ·rename_i p hl
      have har:=arr_of (g:=g) (w:=w) hl
      have hbase:Base X g hs w o vx p (X.C.len q):=by
       cases hx with
       | arrO _ b p' nn c ho hnn hc hz =>
        rw [har] at ho
        simp only [Option.some.injEq,Prod.mk.injEq] at ho
        obtain ⟨hrho,rfl⟩:=ho
        subst hnn
        have hob:=hS.obs o _ hl
        rw [hrho] at hob
        obtain ⟨cells,T,hh,_⟩:=hob
        obtain ⟨cells',T',fz',hh',hsz'⟩:=hz
        have hh0:w.heap[b]?=some (.cells cells T (0,0)):=hh
        have hh1:w.heap[b]?=some (.cells cells' T' fz'):=hh'
        rw [hh0] at hh1
        simp only [Option.some.injEq,Obj.cells.injEq] at hh1
        obtain ⟨rfl,rfl,rfl⟩:=hh1
        exact .own b c cells T hl hrho rfl hc hh0 hsz'
       | arrN _ p' a' ho hnn =>
        rw [har] at ho
        simp only [Option.some.injEq,Prod.mk.injEq] at ho
        obtain ⟨hrho,rfl⟩:=ho
        exact .none a' rfl hnn
      exact appendTo_sound hX hS dst o n by_ t t2 ty e _ p q vx vy hbase hsrc ht hn hby (fun h=>h) r hr hok
     ·subst hr;exact (hno hok).elim
    ·subst hr;exact (hno hok).elim
   ·subst hr;exact (hno hok).elim
  ·subst hr;exact (hno hok).elim
 ·subst hr;exact (hno hok).elim
def undef':Value:=.bool false
theorem rowsOf_len (n:Nat):∀(ps:List (Nat×D α)) (i:Nat) (rows:List (List (D α))),rowsOf n i ps=some rows→∀r∈rows,r.length=n
 | [],i,rows,h,r,hr=>by simp only [rowsOf,Option.some.injEq] at h;subst h;simp at hr
 | (j,d)::ps,i,rows,h,r,hr=>by
  simp only [rowsOf] at h
  cases hg:(Nat.beq i j&&fillD.isGood d&&Nat.beq (cellsD d).length n) with
  | false=>simp [hg] at h
  | true =>
  simp only [hg,cond_true] at h
  simp only [Bool.and_eq_true] at hg
  split at h
  ·rename_i l hl
   simp only [Option.some.injEq] at h
   subst h
   rcases List.mem_cons.1 hr with rfl | hr
   ·exact Nat.eq_of_beq_eq_true hg.2
   ·exact rowsOf_len n ps (i+1) l hl r hr
  ·simp at h
theorem zip_get {ps:List (Nat×D α)} {ds:List (D α)} (_hl:ds.length=ps.length) (k:Nat):((ps.zip ds).map fun x=>(x.1.1,x.2))[k]?=match ps[k]?,ds[k]? with
  | some p,some d=>some (p.1,d)
  | _,_=>none:=by
 rw [List.getElem?_map,List.zip_eq_zipWith,List.getElem?_zipWith]
 cases ps[k]?<;>cases ds[k]?<;>rfl
include hX hS in
theorem buildSliceD_sound (t:TypeId) (len:Nat) (ps:List (Nat×D α)) (qs:Array (Nat×Value)) (hl:qs.size=ps.length)
  (hr:∀(i:Nat) p q,ps[i]?=some p→qs[i]?=some q→q.1=p.1∧RD X.C (cxOf g hs w) q.2 p.2) (r:Res α) (hb:buildSliceD X hs tm t len ps=r) (hok:r.ok=true) :
  ∃v w',(Instr.buildSlice t len qs).run X.P w=.ok v w'∧OpOut X g tm hs a r v w':=by
 have hno:(Res.no:Res α).ok=true→False:=by simp [Res.no]
 unfold buildSliceD at hb
 split at hb
 ·rename_i e ht
  split at hb
  ·rename_i n by_ p0 ds ns hn hby hemp hlend
   split at hb
   ·rename_i rows hrows
    split at hb
    ·rename_i p hp
     subst hb
     simp only [Bool.and_eq_true] at hok
     obtain ⟨⟨⟨⟨⟨h1,h2⟩,h3⟩,h4⟩,h5⟩,h6⟩:=hok
     have h1:=Nat.eq_of_beq_eq_true h1
     have h2:=Nat.eq_of_beq_eq_true h2
     have h3:=Nat.eq_of_beq_eq_true h3
     have h4:=Nat.le_of_ble_eq_true h4
     have h5:=Nat.le_of_ble_eq_true h5
     obtain ⟨i,zv,hi,his,hizv,hzs,hz1⟩:=info_of hn h6
     obtain ⟨hlen,hget⟩:=lendAll_sound hX hS (avBut g hs w ns) avBut_av (ps.map (·.2)) ds ns hlend avBut_ns
     simp only [List.length_map] at hlen
     have h00:=hX.pay.emp t p0 hemp
     obtain ⟨s1,s2,s3,s4,s5⟩:=snocs_spec hX.pay rows p0 p hp
     rw [h00,Nat.zero_add] at s1
     obtain ⟨Z,hZ⟩:∃Z:Array Value,Z=(if len * n=0 then #[] else zv.cells):=⟨_,rfl⟩
     obtain ⟨A,hA⟩:∃A:Array Value,A=(Array.range (len * n)).map (fun k=>Z[k % Z.size]!):=⟨_,rfl⟩
     have hAs:A.size=len * n:=by rw [hA];simp
     have hA1:∀u∈A,u.oneCell'=true:=by
      intro u hu
      rw [hA] at hu
      obtain ⟨k,hk,rfl⟩:=Array.mem_map.1 hu
      have hk':k < len * n:=by simpa using hk
      have hpos:¬ len * n=0:=by omega
      rw [hZ,if_neg hpos]
      have hsz0:0 < zv.cells.size:=by
       rw [hzs];rcases Nat.eq_zero_or_pos n with h | h
       ·rw [h] at hpos;simp at hpos
       ·exact h
      have hlt:k % zv.cells.size < zv.cells.size:=Nat.mod_lt _ hsz0
      rw [getElem!_pos zv.cells _ hlt]
      exact hz1 _ (Array.getElem_mem hlt)
     have hpl:((ps.zip ds).map fun x=>(x.1.1,x.2)).length=ps.length:=by simp [hlen]
     have hrel:∀(k:Nat) p q,((ps.zip ds).map fun x=>(x.1.1,x.2))[k]?=some p→qs.toList[k]?=some q→q.1=p.1∧RD X.C (cx0 w (avBut g hs w ns)) q.2 p.2:=by
      intro k p q hp hq
      rw [zip_get hlen] at hp
      split at hp
      ·rename_i p1 d1 hp1 hd1
       simp only [Option.some.injEq] at hp
       subst hp
       obtain ⟨ha,hbb⟩:=hr k p1 q hp1 (by simpa using hq)
       exact ⟨ha,hget k q.2 p1.2 d1 (by simp [hp1]) hd1 hbb⟩
      ·simp at hp
     have hcount:ps.length=len:=by
      have:=(rows_fill (C:=X.C) (cx:=cx0 w (avBut g hs w ns)) n _ qs.toList 0 rows (Array.replicate (ps.length * n) undef' ) (by rw [hpl];simpa using hl) hrel hrows (by rw [hpl];simp) (by simp [undef',Value.oneCell'])).1
      rw [hpl] at this;omega
     obtain ⟨hrl,vs',hfill,hvs,hv1,_,hv6⟩:=rows_fill (C:=X.C) (cx:=cx0 w (avBut g hs w ns)) n _ qs.toList 0 rows A (by rw [hpl];simpa using hl) hrel hrows (by rw [hpl,hcount,hAs,Nat.zero_add];exact Nat.le_refl _) hA1
     have hrun:(Instr.buildSlice t len qs).run X.P w=.ok (.slice (some ⟨w.heap.size,0,none⟩) len len) (w.alloc (.cells vs' e)):=by
      have hzr:(zeroValue e).run X.P w=.ok zv w:=run_zero w (by simp [hi,hizv])
      have hgt:¬ (len * n > 2 ^ 24):=by omega
      by_cases h0:len * n=0
      ·rw [if_pos h0] at hZ
       subst hZ
       have hA0:A=#[]:=Array.eq_empty_of_size_eq_zero (by omega)
       rw [hA0] at hfill
       have h24:¬ (0 > 2 ^ 24):=by decide
       simp only [Instr.buildSlice,Sem.run_bind,run_underlying ht,Result.andThen_ok,run_sizeOf' X.P w hn,h0,h24,if_false,Sem.run_pure,if_true]
       have hr0:Array.range 0=#[]:=rfl
       simp [hr0,hfill,newRow]
      ·rw [if_neg h0] at hZ
       subst hZ
       simp only [Instr.buildSlice,Sem.run_bind,run_underlying ht,Result.andThen_ok,run_sizeOf' X.P w hn,hgt,if_false,Sem.run_pure,h0,hzr]
       rw [←hA]
       simp [hfill,newRow]
     refine ⟨_,_,hrun,g.rho,?_,?_⟩
     ·cases hni:isNil ns with
      | true=>exact hS.grow hX.pay (below_alloc w _)
      | false=>exact ((sim_freeze hX hS ns).1).grow hX.pay (below_alloc w _)
     ·have hfr:((bif isNil ns then none else some (tm,freeze hs ns):Option (List (D α)×Obs α)).getD (tm,hs)).2=freeze hs ns:=by
       cases hni:isNil ns with
       | true=>rw [isNil_eq hni];rfl
       | false=>rfl
      show RD X.C (cxOf g ((bif isNil ns then none else some (tm,freeze hs ns):Option (List (D α)×Obs α)).getD (tm,hs)).2 (w.alloc (.cells vs' e))) _ (.pl p .full)
      rw [hfr]
      have hlenp:len=X.C.len p:=by rw [s1];omega
      have hel:∀(i j:Nat) d,i < len→(X.C.elem p i)[j]?=some d→∃u,vs'[i * X.C.esz p+j]?=some u∧RD X.C (cxOf g (freeze hs ns) (w.alloc (.cells vs' e))) u d:=by
       intro i j d hi' hd
       have hj:j < X.C.esz p:=by
        rw [←hX.pay.elen p i (by omega)]
        rcases Nat.lt_or_ge j (X.C.elem p i).length with h | h
        ·exact h
        ·simp [List.getElem?_eq_none h] at hd
       have hlt:i * X.C.esz p+j < vs'.size:=by
        rw [hvs,hAs,h2]
        have:(i+1) * X.C.esz p≤len * X.C.esz p:=Nat.mul_le_mul_right _ hi'
        rw [Nat.add_mul,Nat.one_mul] at this;omega
       have hu:vs'[i * X.C.esz p+j]?=some vs'[i * X.C.esz p+j]:=by simp [hlt]
       have hrow:rows[i]?=some (rows[i]'(by omega)):=by simp
       have hrowlen:(rows[i]'(by omega)).length=X.C.esz p:=by
        have:=rowsOf_len n _ _ _ hrows _ (List.getElem_mem (by omega:i < rows.length))
        omega
       have hjr:(rows[i]'(by omega))[j]?=some ((rows[i]'(by omega))[j]'(by omega)):=by simp
       refine ⟨_,hu,?_⟩
       have h7:=hv6 i j _ _ vs'[i * X.C.esz p+j] hrow hjr (by rw [Nat.zero_add,h2];exact hu)
       have h8:Dle X.C _ d:=s5 i j _ _ d hrow hjr (by rw [h00,Nat.zero_add];exact hd)
       have h9:=h7.le h8
       have hcl:=hX.pay.clo p i d (List.mem_of_getElem? hd)
       have h10:RD X.C (cx0 (w.alloc (.cells vs' e)) (avBut g hs w ns)) vs'[i * X.C.esz p+j] d:=by
        refine RD.closedTo hX.pay (cx:=cx0 w (avBut g hs w ns)) (cx':=cx0 (w.alloc (.cells vs' e)) (avBut g hs w ns)) ⟨fun b ob _ hb=>?_,fun b ob _ h=>h,fun _ _ h=>by simp at h,fun _ _ _ h=>by simp at h,fun b cells T fz hb=>?_⟩ hcl h9
        ·show (w.alloc _).heap[b]?=_
         exact (heap_alloc_old' w _ (lt_of_heap (w:=w) hb)).trans hb
        ·refine ⟨cells,T,fz,?_,rfl⟩
         show (w.alloc _).heap[b]?=_
         exact (heap_alloc_old' w _ (lt_of_heap (w:=w) hb)).trans hb
       exact RD.closedTo hX.pay (frozen_of_out hS) hcl h10
      refine .pl w.heap.size 0 len len p .full (fun i j=>(vs'[i * X.C.esz p+j]?).getD undef) hlenp (Nat.le_refl _) (by rw [←h3];exact h5) rfl ?_ (fun i j d hi' hd=>?_) (fun i j d hi' hd=>?_) (fun i j d hi' hd=>?_) True.intro (fun _=>⟨Nat.zero_mod _,_,_,heap_alloc_new' w _⟩)
      ·rintro (h | ⟨o,ob,hlo,_,hro⟩)
       ·have:=hS.av0 _ h;have:=hS.below.size;omega
       ·have:=((sim_freeze hX hS ns).1.own o ob _ hlo hro).2;omega
      ·obtain ⟨u,hu,_⟩:=hel i j d hi' hd
       show (w.alloc _).cell? ⟨w.heap.size,_,none⟩=_
       rw [Nat.zero_add,cell_at (heap_alloc_new' w _),hu];rfl
      ·obtain ⟨u,hu,_⟩:=hel i j d hi' hd
       rw [hu];exact hv1 u (Array.mem_of_getElem? hu)
      ·obtain ⟨u,hu,h⟩:=hel i j d hi' hd
       rw [hu];exact h
    ·subst hb;exact (hno hok).elim
   ·subst hb;exact (hno hok).elim
  ·subst hb;exact (hno hok).elim
 ·subst hb;exact (hno hok).elim
end
end Go.Eng
