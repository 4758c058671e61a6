/-
 THE ENGINE: MAPS: one that the call makes, written into, looked into; one that others made, looked into.
-/
import Derived.Test.YtcgbgcconigdbaaGreatDoorEngJ
import Derived.Carry
namespace Go.Eng
open Go.RowKit
variable {α:Type}
theorem overV_get:∀(us vs:List Value) (i k:Nat),i+us.length≤vs.length→(overV vs i us)[k]?=if i≤k∧k < i+us.length then us[k - i]? else vs[k]?
 | [],vs,i,k,_=>by
  have:¬ (i≤k∧k < i+([]:List Value).length):=by simp
  simp only [overV,this,if_false]
 | u::us,vs,i,k,h=>by
  simp only [List.length_cons] at h
  rw [overV,overV_get us (vs.set i u) (i+1) k (by simp;omega)]
  by_cases hk:k=i
  ·subst hk
   rw [if_neg (by omega),if_pos (by simp only [List.length_cons];omega),List.getElem?_set_self (by omega),Nat.sub_self]
   rfl
  ·by_cases h1:i+1≤k∧k < i+1+us.length
   ·have h2:i≤k∧k < i+(us.length+1):=by omega
    simp only [h1,and_self,if_true,List.length_cons,h2]
    have:k - i=(k - (i+1))+1:=by omega
    rw [this,List.getElem?_cons_succ]
   ·have h2:¬ (i≤k∧k < i+(us.length+1)):=by omega
    simp only [h1,if_false,List.length_cons,h2]
    rw [List.getElem?_set_ne (by omega)]
theorem overL_get:∀(us vs:List (D α)) (i k:Nat),i+us.length≤vs.length→(overL vs i us)[k]?=if i≤k∧k < i+us.length then us[k - i]? else vs[k]?
 | [],vs,i,k,_=>by
  have:¬ (i≤k∧k < i+([]:List (D α)).length):=by simp
  simp only [overL,this,if_false]
 | u::us,vs,i,k,h=>by
  simp only [List.length_cons] at h
  rw [overL,overL_get us (setT vs i u) (i+1) k (by rw [setT_length];omega),setT_eq]
  by_cases hk:k=i
  ·subst hk
   rw [if_neg (by omega),if_pos (by simp only [List.length_cons];omega),List.getElem?_set_self (by omega),Nat.sub_self]
   rfl
  ·by_cases h1:i+1≤k∧k < i+1+us.length
   ·have h2:i≤k∧k < i+(us.length+1):=by omega
    simp only [h1,and_self,if_true,List.length_cons,h2]
    have:k - i=(k - (i+1))+1:=by omega
    rw [this,List.getElem?_cons_succ]
   ·have h2:¬ (i≤k∧k < i+(us.length+1)):=by omega
    simp only [h1,if_false,List.length_cons,h2]
    rw [List.getElem?_set_ne (by omega)]
theorem isNil_eq {l:List Nat} (h:isNil l=true):l=[]:=by cases l<;>simp_all [isNil]
section
variable {X:Ctx α} (hX:XOk X) {g:Gh} {tm:List (D α)} {hs:Obs α} {a:Act} {w:World} (hS:Sim X g tm hs a w)
theorem storeCellsD_sound {C:Pay α} {cx:Cx α} {P:Program} {t:TypeId} {v:Value} {d:D α} {cs:List (D α)} (hd:RD C cx v d) (h:storeCellsD P t d=some cs) :
  RDcells C cx v.cells.toList cs∧szO P t=some cs.length:=by
 unfold storeCellsD at h
 split at h
 ·rename_i n cs' _ hsz
  cases hn:Nat.beq cs'.length n with
  | false=>simp [hn] at h
  | true =>
   simp only [hn,cond_true,Option.some.injEq] at h
   subst h
   obtain rfl:=Nat.eq_of_beq_eq_true hn
   have hd':=hd
   cases hd with | agg vs _ _ _ _ =>
   exact ⟨RDcells.of_agg hd',hsz⟩
 ·rename_i d _ _ _ _ hsz
  cases ho:isOne d with
  | false=>simp [ho] at h
  | true =>
   simp only [ho,cond_true,Option.some.injEq] at h
   subst h
   have h1:=oneCell_of_isOne hd ho
   rw [cells_one h1]
   refine ⟨⟨rfl,fun i u hu=>?_,fun i u c hu hc=>?_⟩,hsz⟩
   ·cases i<;>simp at hu
    subst hu;exact h1
   ·cases i<;>simp at hu hc
    subst hu hc;exact hd
 ·simp at h
theorem ObRel.ofCells {C:Pay α} {cx:Cx α} {b:Nat} {vs:Array Value} {cs:List (D α)} {T:TypeId} {fz:Bool} (h:RDcells C cx vs.toList cs) (hh:cx.w.heap[b]?=some (.cells vs T (0,0))) :
  ObRel C cx (some b) (.box fz cs) :=
 ⟨b,vs,T,rfl,hh,by simpa using h.1,fun i v hv=>h.2.1 i v (by simpa using hv),fun i v c hv hc=>h.2.2 i v c (by simpa using hv) hc⟩
theorem RDcells.kill {C:Pay α} (hC:PayOk C) {ns:Nat→Bool} {cx cx':Cx α} (hle:CxLe C ns cx cx') {vs:List Value} {cs:List (D α)} (h:RDcells C cx vs cs):RDcells C cx' vs (killL ns cs):=by
 refine ⟨by rw [killL_length];exact h.1,h.2.1,fun i v c hv hc=>?_⟩
 rw [killL_get] at hc
 obtain ⟨c',hc',rfl⟩:=Option.map_eq_some_iff.1 hc
 exact RD.kill hC hle (h.2.2 i v c' hv hc')
theorem RDcells.grow {C:Pay α} (hC:PayOk C) {cx cx':Cx α} (hle:CxLe C (fun _=>false) cx cx') {vs:List Value} {cs:List (D α)} (h:RDcells C cx vs cs):RDcells C cx' vs cs:=by
 have:=h.kill hC hle
 rwa [killL_none] at this
include hX hS in
theorem boxD_sound (dst:Nat) (hdst:Nat.blt dst 40000=true) (t:TypeId) (vs:Array Value) (cs:List (D α)) (hc:RDcells X.C (cxOf g hs w) vs.toList cs) :
  OpOut X g tm hs a (boxD tm hs dst cs) (.pointer (some ⟨w.heap.size,0,none⟩)) (w.alloc (.cells vs t)):=by
 refine ⟨bind1 g.rho dst (some w.heap.size),?_,?_⟩
 ·refine new_sound hX hS dst dst hdst (.box false (killL (nsOf dst dst) cs)) (.cells vs t) w (BelowD.refl _ _) rfl fun cx hle hh=>?_
  exact ObRel.ofCells (hc.kill hX.pay hle) hh
 ·refine .ptr _ _ _ ?_
  simp [cxOf,boxD,look_rebind,bind1]
theorem zeroCells_sound {C:Pay α} {cx:Cx α} {v:Value} (h:goodCells (cellsD (ofV v:D α))=true):RDcells C cx v.cells.toList (cellsD (ofV v)):=by
 have hr:=ofV_sound C cx v
 by_cases ha:∃cs,(ofV v:D α)=.agg cs
 ·obtain ⟨cs,he⟩:=ha
  rw [he] at hr ⊢
  have hr':=hr
  cases hr with | agg vs _ _ _ _=>exact RDcells.of_agg hr'
 ·have he:cellsD (ofV v:D α)=[ofV v]:=by
   cases hq:(ofV v:D α)<;>simp_all [cellsD]
  rw [he] at h ⊢
  simp only [goodCells,List.all_cons,List.all_nil,Bool.and_true] at h
  have h1:=oneCell_of_isOne hr h
  rw [cells_one h1]
  refine ⟨rfl,fun i u hu=>?_,fun i u c hu hc=>?_⟩
  ·cases i<;>simp at hu
   subst hu;exact h1
  ·cases i<;>simp at hu hc
   subst hu hc;exact hr
theorem szO_cells {P:Program} (w:World) {t:TypeId} {n:Nat} {v:Value} (h:szO P t=some n) (hv:v.cells.size=n) (ad:Addr) :
  (storeVar t ad v).run P w=(storeCells ad v.cells.toList).run P w:=by
 simp [storeVar,run_sizeOf' P w h,hv]
theorem setRow_size_of {w:World} {b:Nat} {cur cs:Array Value} {T0:TypeId} (hh:w.heap[b]?=some (.cells cur T0 (0,0))) (hs:cs.size=cur.size) :
  ∀(k:Nat) cells T fz,w.heap[k]?=some (.cells cells T fz)→∃cells' T' fz',(w.setRow b cs).heap[k]?=some (.cells cells' T' fz')∧cells'.size=cells.size:=by
 intro k cells T fz hk
 by_cases hkb:k=b
 ·subst hkb
  rw [hh] at hk
  simp only [Option.some.injEq,Obj.cells.injEq] at hk
  obtain ⟨rfl,rfl,rfl⟩:=hk
  exact ⟨cs,T0,(0,0),setRow_heap w k cur cs T0 (0,0) hh,hs⟩
 ·exact ⟨cells,T,fz,by rw [setRow_other w b k cs hkb];exact hk,rfl⟩
theorem RD.kill_cx0 {C:Pay α} (hC:PayOk C) {g:Gh} {hs hs':Obs α} {w w':World} (hle:CxLe C (fun _=>false) (cxOf g hs w) (cxOf g hs' w')) {v:Value} {d:D α}
  (h:RD C (cx0 w (cxOf g hs w).av) v d):RD C (cxOf g hs' w') v d:=by
 refine RD.grow hC (cx:=cx0 w (cxOf g hs w).av) ⟨hle.cell,hle.av,fun o b _ h=>by simp [cx0] at h,fun o b p _ h=>by simp [cx0] at h,hle.size⟩ h
theorem setRow_belowL {δ:Bool} {w:World} {B b:Nat} {L:Nat→Prop} (cs:Array Value) (hB:B≤b∨L b) (hsz:∀(k:Nat) cells T fz,w.heap[k]?=some (.cells cells T fz)→∃cells' T' fz',(w.setRow b cs).heap[k]?=some (.cells cells' T' fz')∧cells'.size=cells.size):BelowL δ B L w (w.setRow b cs) :=
  ⟨rfl, rfl, rfl, by simp, fun k hk hL => setRow_other w b k cs (by rintro rfl; rcases hB with h | h; · omega
                                                                    · exact hL h),fun k cells T fz _ h=>hsz k cells T fz h,fun _=>Nat.le_refl _⟩
include hX hS in
theorem storeD_sound (t:TypeId) (x y:D α) (vx vy:Value) (hx:RD X.C (cxOf g hs w) vx x) (hy:RD X.C (cxOf g hs w) vy y) (r:Res α) (hr:storeD X tm hs t x y=r) (hok:r.ok=true) :
  ∃w',(Instr.storeAt t vx vy).run X.P w=.ok () w'∧OpOut X g tm hs a r undef w':=by
 unfold storeD at hr
 split at hr
 ·rename_i cs hcs
  obtain ⟨hc,hsz⟩:=storeCellsD_sound hy hcs
  have hvs:vy.cells.size=cs.length:=by simpa using hc.1
  split at hr
  ·rename_i o off
   split at hr
   ·rename_i old hl
    subst hr
    have hle:=Nat.le_of_ble_eq_true hok
    cases hx with | ptr _ _ b ho =>
    have hrho:g.rho o=some b:=by simpa [cxOf,hl] using ho
    obtain ⟨b',cells,T,hb',hh,hs',h1,hrd⟩:=hS.obs o _ hl
    obtain rfl:b=b':=by rw [hrho] at hb';simpa using hb'
    have hh:w.heap[b]?=some (.cells cells T (0,0)):=hh
    have hrun:=run_storeCells_at X.P b off T vy.cells.toList 0 cells w hh (by simp;omega) (fun v hv=>by
     obtain ⟨i,hi⟩:=List.mem_iff_getElem?.1 hv
     exact hc.2.1 i v hi)
    have hov:=overV_append vy.cells.toList cells.toList off (by simp;omega)
    simp only [Nat.add_zero] at hrun
    rw [←hov] at hrun
    have hlen:(overV cells.toList off vy.cells.toList).length=cells.size:=by rw [hov];simp;omega
    refine ⟨_,by simp only [Instr.storeAt,Instr.sureAddr,Sem.run_bind,Sem.run_pure,Result.andThen_ok,szO_cells w hsz hvs];exact hrun,g.rho,?_,.lit _⟩
    refine sim_write hX hS hl rfl hrho rfl trivial ⟨rfl,rfl,rfl,Nat.le_refl _⟩ (by simp) (fun k hk=>setRow_other w b k _ hk) (setRow_size_of hh (by simpa using hlen)) fun hle'=>?_
    refine ObRel.ofCells (T:=T) ?_ (setRow_heap w b cells _ T (0,0) hh)
    have hold:RDcells X.C (cxOf g hs w) cells.toList old:=⟨by simpa using hs',fun i v hv=>h1 i v (by simpa using hv),fun i v c hv hc=>hrd i v c (by simpa using hv) hc⟩
    exact (hold.grow hX.pay hle').over _ _ _ _ off (hc.grow hX.pay hle')
   ·subst hr;simp [Res.no] at hok
  ·rename_i o i off
   split at hr
   ·rename_i p hl
    split at hr
    ·rename_i ds ns hln
     split at hr
     ·rename_i q hq
      subst hr
      simp only [Bool.and_eq_true] at hok
      obtain ⟨⟨h1,h2⟩,h3⟩:=hok
      have h1:=Nat.le_of_ble_eq_true h1
      obtain rfl:=isNil_eq h3
      cases hx with | epr _ _ _ b p' ho hi =>
      rw [arr_of (g:=g) (w:=w) hl] at ho
      simp only [Option.some.injEq,Prod.mk.injEq] at ho
      obtain ⟨hrho,rfl⟩:=ho
      have hob:=hS.obs o _ hl
      rw [hrho] at hob
      obtain ⟨cells,T,hh,hsz',hbig,hc1,hcr⟩:=hob
      have hh:w.heap[b]?=some (.cells cells T (0,0)):=hh
      have hfit:i * X.C.esz p+X.C.esz p≤cells.size:=by
       have:(i+1) * X.C.esz p≤X.C.len p * X.C.esz p:=Nat.mul_le_mul_right _ hi
       rw [Nat.add_mul,Nat.one_mul] at this;omega
      obtain ⟨hlen,hget⟩:=lendAll_sound hX hS (cxOf g hs w).av (fun _ h=>h) cs ds [] hln (by simp)
      have hrun:=run_storeCells_at X.P b (i * X.C.esz p+off) T vy.cells.toList 0 cells w hh (by simp;omega) (fun v hv=>by
       obtain ⟨i,hi⟩:=List.mem_iff_getElem?.1 hv
       exact hc.2.1 i v hi)
      have hov:=overV_append vy.cells.toList cells.toList (i * X.C.esz p+off) (by simp;omega)
      simp only [Nat.add_zero] at hrun
      rw [←hov] at hrun
      have hlen':(overV cells.toList (i * X.C.esz p+off) vy.cells.toList).length=cells.size:=by rw [hov];simp;omega
      obtain ⟨q1,q2,q3,q4,q5,q6⟩:=hX.pay.set p i _ q hi hq
      refine ⟨_,by simp only [Instr.storeAt,Instr.sureAddr,Sem.run_bind,Sem.run_pure,Result.andThen_ok,szO_cells w hsz hvs];exact hrun,g.rho,?_,.lit _⟩
      refine sim_write hX hS hl rfl hrho rfl ⟨q1,q2⟩ ⟨rfl,rfl,rfl,Nat.le_refl _⟩ (by simp) (fun k hk=>setRow_other w b k _ hk) (setRow_size_of hh (by simpa using hlen')) fun hle'=>?_
      refine ⟨_,T,setRow_heap w b cells _ T (0,0) hh,?_,?_,fun k u hu=>?_,fun j k u d hj hu hd=>?_⟩
      ·rw [q1,q2];simpa [hlen'] using hsz'
      ·rw [q1,q3];exact hbig
      ·simp only [List.getElem?_toArray] at hu
       rw [overV_get _ _ _ _ (by simp;omega)] at hu
       split at hu
       ·exact hc.2.1 _ _ hu
       ·exact hc1 _ _ (by simpa using hu)
      ·rw [q1] at hj
       rw [q2] at hu
       simp only [List.getElem?_toArray] at hu
       rw [overV_get _ _ _ _ (by simp;omega)] at hu
       have hk:k < X.C.esz p:=by
        rw [←q2,←hX.pay.elen q j (by omega)]
        rcases Nat.lt_or_ge k (X.C.elem q j).length with h | h
        ·exact h
        ·simp [List.getElem?_eq_none h] at hd
       have hvl:vy.cells.toList.length=vy.cells.size:=by simp
       by_cases hji:j=i
       ·subst hji
        have hel:=hX.pay.elen p j hj
        have hc0:(overL (X.C.elem p j) off ds)[k]?=some ((overL (X.C.elem p j) off ds)[k]'(by rw [q5];exact hk)):=by simp
        refine RD.le ?_ (q6 k _ d hc0 hd)
        have hg:=overL_get ds (X.C.elem p j) off k (by rw [hlen,hel];exact h1)
        rw [hc0] at hg
        by_cases hin:off≤k∧k < off+ds.length
        ·rw [if_pos hin] at hg
         rw [if_pos (by omega)] at hu
         have hidx:j * X.C.esz p+k - (j * X.C.esz p+off)=k - off:=by omega
         rw [hidx] at hu
         have hlt:k - off < cs.length:=by omega
         have:=hget (k - off) u cs[k - off] _ (by simp [hlt]) hg.symm (hc.2.2 (k - off) u _ hu (by simp [hlt]))
         exact RD.kill_cx0 hX.pay hle' this
        ·rw [if_neg hin] at hg
         rw [if_neg (by omega)] at hu
         have:=hcr j k u _ hj (by simpa using hu) hg.symm
         exact this.grow hX.pay hle'
       ·rw [q4 j hji] at hd
        have hne:¬ (i * X.C.esz p+off≤j * X.C.esz p+k∧j * X.C.esz p+k < i * X.C.esz p+off+vy.cells.toList.length):=by
         rintro ⟨ha,hb⟩
         rcases Nat.lt_or_gt_of_ne hji with h | h
         ·have:(j+1) * X.C.esz p≤i * X.C.esz p:=Nat.mul_le_mul_right _ h
          rw [Nat.add_mul,Nat.one_mul] at this;omega
         ·have:(i+1) * X.C.esz p≤j * X.C.esz p:=Nat.mul_le_mul_right _ h
          rw [Nat.add_mul,Nat.one_mul] at this;omega
        rw [if_neg hne] at hu
        exact (hcr j k u d hj (by simpa using hu) hd).grow hX.pay hle'
     ·subst hr;simp [Res.no] at hok
    ·subst hr;simp [Res.no] at hok
   ·subst hr;simp [Res.no] at hok
  ·subst hr;simp [Res.no] at hok
 ·subst hr;simp [Res.no] at hok
end
end Go.Eng
namespace Go.Eng
open Go.RowKit Go.MapKept
open Go.Maps (Keyed)
variable {α:Type}
theorem shpL_get:∀(cs:List (D α)) (l:List KC),shpL cs=some l→cs.length=l.length∧∀(i:Nat) c,cs[i]?=some c→∃k,l[i]?=some k∧shp1 c=some k
 | [],l,h=>by simp only [shpL,Option.some.injEq] at h;subst h;exact ⟨rfl,fun i c hc=>by simp at hc⟩
 | d::r,l,h=>by
  simp only [shpL] at h
  split at h
  ·rename_i k l' hk hl
   simp only [Option.some.injEq] at h
   subst h
   obtain ⟨h1,h2⟩:=shpL_get r l' hl
   refine ⟨by simp [h1],fun i c hc=>?_⟩
   cases i with
   | zero=>simp only [List.getElem?_cons_zero,Option.some.injEq] at hc;subst hc;exact ⟨k,by simp,hk⟩
   | succ i=>simpa using h2 i c (by simpa using hc)
  ·simp at h
theorem bytes_ext {s u:ByteArray} (h:s.data.toList=u.data.toList):s=u:=by
 cases s;cases u
 simp only at h
 congr
 exact Array.ext' h
theorem key1_det {C:Pay α} {cx cx':Cx α} {v v':Value} {d d':D α} {k:KC} (h:RD C cx v d) (h':RD C cx' v' d') (hk:shp1 d=some k) (hk':shp1 d'=some k):v=v'↔d=d':=by
 cases h<;>simp only [shp1,Option.some.injEq,reduceCtorEq] at hk<;>subst hk<;>cases h'<;>simp only [shp1,Option.some.injEq,reduceCtorEq,KC.i.injEq] at hk'
 ·simp
 ·subst hk';simp
 ·rename_i s l h hl s' l' h' hl'
  subst h h'
  simp only [Value.string.injEq,D.str.injEq]
  exact ⟨fun h=>by rw [h],bytes_ext⟩
theorem shp_cases {d:D α} {s:Bool×List KC} (h:shp d=some s):(∃cs l,d=.agg cs∧shpL cs=some l∧s=(true,l))∨∃k,shp1 d=some k∧s=(false,[k]):=by
 unfold shp at h
 split at h
 ·rename_i cs
  split at h
  ·rename_i l hl
   simp only [Option.some.injEq] at h
   exact .inl ⟨cs,l,rfl,hl,h.symm⟩
  ·simp at h
 ·split at h
  ·rename_i k hk
   simp only [Option.some.injEq] at h
   exact .inr ⟨k,hk,h.symm⟩
  ·simp at h
theorem key_det {C:Pay α} {cx cx':Cx α} {v v':Value} {d d':D α} {s:Bool×List KC} (h:RD C cx v d) (h':RD C cx' v' d') (hk:shp d=some s) (hk':shp d'=some s):v=v'↔d=d':=by
 rcases shp_cases hk with ⟨cs,l,rfl,hl,rfl⟩ | ⟨k,h1,rfl⟩<;>rcases shp_cases hk' with ⟨cs',l',rfl,hl',e⟩ | ⟨k',h1',e⟩<;>simp only [Prod.mk.injEq,true_and,Bool.false_eq_true,reduceCtorEq,false_and,List.cons.injEq,and_true] at e
 ·subst e
  obtain ⟨n1,g1⟩:=shpL_get _ _ hl
  obtain ⟨n2,g2⟩:=shpL_get _ _ hl'
  cases h with
  | agg vs _ hs _ hr=>cases h' with
   | agg vs' _ hs' _ hr' =>
    have key:∀(i:Nat) (hi:i < vs.size) (hi':i < vs'.size) (hc:i < cs.length) (hc':i < cs'.length),vs[i]=vs'[i]↔cs[i]=cs'[i]:=by
     intro i hi hi' hc hc'
     obtain ⟨k,hk1,hk2⟩:=g1 i cs[i] (by simp [hc])
     obtain ⟨k',hk1',hk2'⟩:=g2 i cs'[i] (by simp [hc'])
     rw [hk1] at hk1'
     simp only [Option.some.injEq] at hk1'
     subst hk1'
     exact key1_det (hr i _ _ (by simp [hi]) (by simp [hc])) (hr' i _ _ (by simp [hi']) (by simp [hc'])) hk2 hk2'
    simp only [Value.agg.injEq,D.agg.injEq]
    constructor
    ·rintro rfl
     exact List.ext_getElem (by omega) fun i hc hc'=>(key i (by omega) (by omega) hc hc').1 rfl
    ·rintro rfl
     exact Array.ext (by omega) fun i hc hc'=>(key i hc hc' (by omega) (by omega)).2 rfl
 ·subst e;exact key1_det h h' h1 h1'
def IsKC (k:KC) (v:Value):Prop:=match k with
 | .b=>∃b,v=.bool b
 | .i q=>∃n,v=.int q n∧inR q n=true
 | .s=>∃s,v=.string s∧s.data.toList.length≤big
theorem RD.isKC {C:Pay α} {cx:Cx α} {v:Value} {d:D α} {k:KC} (h:RD C cx v d) (hk:shp1 d=some k):IsKC k v:=by
 cases h<;>simp only [shp1,Option.some.injEq,reduceCtorEq] at hk<;>subst hk
 ·exact ⟨_,rfl⟩
 ·rename_i n h;exact ⟨n,rfl,h⟩
 ·rename_i s l h hl;exact ⟨s,rfl,by rw [h];exact hl⟩
theorem mapM_ex {β γ:Type} {f:β→Option γ}:∀(l:List β),(∀x∈l,∃y,f x=some y)→∃ys,l.mapM f=some ys
 | [],_=>⟨[],rfl⟩
 | x::r,h=>by
  obtain ⟨y,hy⟩:=h x (by simp)
  obtain ⟨ys,hys⟩:=mapM_ex r fun z hz=>h z (by simp [hz])
  exact ⟨y::ys,by simp [List.mapM_cons,hy,hys]⟩
theorem size_big {s:ByteArray} (h:s.data.toList.length≤big):s.size≤maxLen:=by
 have:s.size=s.data.toList.length:=Array.length_toList.symm
 rw [this]
 unfold maxLen
 unfold big at h
 omega
theorem keyS_lits {P:Program}:∀(n:Nat) (t:TypeId) (l:List KC) (vs:List Value),keyS P n t l=true→vs.length=l.length→(∀(i:Nat) v k,vs[i]?=some v→l[i]?=some k→IsKC k v)→∃ls,P.keyLits n t vs=some ls
 | 0,t,l,vs,h,_,_=>by simp [keyS] at h
 | n+1,t,l,vs,h,hl,hk=>by
  unfold keyS at h
  have one:∀k,l=[k]→∃v,vs=[v]∧IsKC k v:=by
   rintro k rfl
   match vs,hl with
   | [v],_=>exact ⟨v,rfl,hk 0 v k rfl rfl⟩
  split at h
  ·rename_i hu
   obtain ⟨v,rfl,b,rfl⟩:=one _ rfl
   exact ⟨[.bool b],by unfold Program.keyLits;rw [hu]⟩
  ·rename_i q q' hu
   obtain rfl:=beq_iff_eq.1 h
   obtain ⟨v,rfl,m,rfl,hm⟩:=one _ rfl
   rw [inR_wf] at hm
   exact ⟨[.int q m],by unfold Program.keyLits;rw [hu];simp [hm]⟩
  ·rename_i hu
   obtain ⟨v,rfl,s,rfl,hs⟩:=one _ rfl
   exact ⟨[.string s.data.toList],by unfold Program.keyLits;rw [hu];simp [size_big hs]⟩
  ·rename_i fs hu
   simp only [Bool.and_eq_true,List.all_eq_true] at h
   obtain ⟨⟨h1,h2⟩,h3⟩:=h
   have h1:=Nat.eq_of_beq_eq_true h1
   obtain ⟨ys,hys⟩:=mapM_ex (f:=fun f=>P.keyLits n f.type ((vs.drop f.offset).take (P.cellsOf f.type))) fs.toList fun f hf=>by
    refine keyS_lits n f.type _ _ (h3 f hf) (by simp [hl]) fun i v k hv hk'=>?_
    rw [List.getElem?_take,List.getElem?_drop] at hv hk'
    split at hv
    ·rename_i hlt
     rw [if_pos hlt] at hk'
     exact hk _ v k hv hk'
    ·simp at hv
   refine ⟨ys.flatten,?_⟩
   unfold Program.keyLits
   simp only [hu]
   rw [if_pos ⟨by omega,h2⟩,hys]
   rfl
  ·simp at h
theorem keyed_ok {P:Program} {kt:TypeId} {s:Bool×List KC} (h:keyOkD P kt s=true):Keyed P kt:=by
 unfold keyOkD at h
 split at h
 ·rename_i hu;exact Maps.bool_keyed hu
 ·rename_i hu;exact Maps.int_keyed hu
 ·rename_i hu;exact Maps.string_keyed hu
 ·rename_i fs l hu
  simp only [Bool.and_eq_true] at h
  exact Keyed.of_law (deep_law (m:=9) (by decide) h.1.1.1.2 h.1.1.2 (by rw [hu]))
 ·simp at h
theorem keyOf_ok {P:Program} {kt:TypeId} {s:Bool×List KC} (h:keyOkD P kt s=true) {C:Pay α} {cx:Cx α} {v:Value} {d:D α} (hr:RD C cx v d) (hs:shp d=some s):∃l,keyOf P kt v=some l:=by
 unfold keyOkD at h
 have one:∀k,s=(false,[k])→IsKC k v:=by
  rintro k rfl
  rcases shp_cases hs with ⟨cs,l,rfl,hl,e⟩ | ⟨k',h1,e⟩
  ·simp at e
  ·simp only [Prod.mk.injEq,true_and,List.cons.injEq,and_true] at e
   subst e
   exact hr.isKC h1
 split at h
 ·rename_i hu
  obtain ⟨b,rfl⟩:=one _ rfl
  exact ⟨.bool b,by simp [keyOf,hu,mapKey]⟩
 ·rename_i q q' hu
  obtain rfl:=beq_iff_eq.1 h
  obtain ⟨n,rfl,hn⟩:=one _ rfl
  rw [inR_wf] at hn
  exact ⟨.int q n,by simp [keyOf,hu,mapKey,hn]⟩
 ·rename_i hu
  obtain ⟨u,rfl,hn⟩:=one _ rfl
  exact ⟨.string u.data.toList,by simp [keyOf,hu,mapKey,size_big hn]⟩
 ·rename_i fs l hu
  simp only [Bool.and_eq_true] at h
  rcases shp_cases hs with ⟨cs,l',rfl,hl,e⟩ | ⟨k',h1,e⟩
  ·simp only [Prod.mk.injEq,true_and] at e
   subst e
   obtain ⟨n1,g1⟩:=shpL_get _ _ hl
   cases hr with
   | agg vs _ hsz _ hrd =>
    obtain ⟨ls,hls⟩:=keyS_lits (P:=P) _ kt l vs.toList h.2 (by simp;omega) fun i v k hv hk=>by
     have hlt:i < cs.length:=by rw [n1];exact (List.getElem?_eq_some_iff.1 hk).1
     obtain ⟨k',hk1,hk2⟩:=g1 i cs[i] (by simp [hlt])
     rw [hk] at hk1
     simp only [Option.some.injEq] at hk1
     subst hk1
     exact (hrd i v cs[i] (by simpa using hv) (by simp [hlt])).isKC hk2
    have hf:(Value.agg vs).formed P kt=true:=by
     have:=Nat.eq_of_beq_eq_true h.1.2
     simp only [Value.formed,hu,beq_iff_eq]
     omega
    exact ⟨.string (keyBytes ls),by simp only [keyOf,hu,h.1.1.1.1,hf,Bool.and_self,if_true,Value.cells,hls,Option.map_some]⟩
  ·simp at e
 ·simp at h
theorem le1_sound {C:Pay α} {cx:Cx α} {v:Value} {d e:D α} (h:le1 C d e=true) (hr:RD C cx v d):RD C cx v e:=by
 unfold le1 at h
 split at h
 ·obtain rfl:=beq_iff_eq.1 h;exact hr
 ·simp only [Bool.and_eq_true,beq_iff_eq] at h;obtain ⟨rfl,rfl⟩:=h;exact hr
 ·obtain rfl:=beq_iff_eq.1 h;exact hr
 ·exact hr
 ·exact hr
 ·exact hr
 ·exact hr
 ·exact hr
 ·cases hr;exact .pl0 _ _ _ _ (Nat.eq_of_beq_eq_true h) trivial
 ·simp at h
theorem leL_get {C:Pay α}:∀(cs ds:List (D α)),leL C cs ds=true→cs.length=ds.length∧∀(i:Nat) c d,cs[i]?=some c→ds[i]?=some d→le1 C c d=true
 | [],[],_=>⟨rfl,fun i c d h=>by simp at h⟩
 | [],_::_,h=>by simp [leL] at h
 | _::_,[],h=>by simp [leL] at h
 | c::r,d::s,h=>by
  simp only [leL,Bool.and_eq_true] at h
  obtain ⟨h1,h2⟩:=leL_get r s h.2
  refine ⟨by simp [h1],fun i x y hx hy=>?_⟩
  cases i with
  | zero=>simp only [List.getElem?_cons_zero,Option.some.injEq] at hx hy;subst hx hy;exact h.1
  | succ i=>exact h2 i x y (by simpa using hx) (by simpa using hy)
theorem leD_sound {C:Pay α} {cx:Cx α} {v:Value} {d e:D α} (h:leD C d e=true) (hr:RD C cx v d):RD C cx v e:=by
 unfold leD at h
 split at h
 ·rename_i cs ds
  obtain ⟨h1,h2⟩:=leL_get cs ds h
  cases hr with
  | agg vs _ hs ho hrd =>
   refine .agg vs ds (hs.trans h1) ho fun i v c hv hc=>?_
   have hlt:i < cs.length:=by rw [h1];exact (List.getElem?_eq_some_iff.1 hc).1
   exact le1_sound (h2 i cs[i] c (by simp [hlt]) hc) (hrd i v cs[i] hv (by simp [hlt]))
 ·exact le1_sound h hr
def MapAt (C:Pay α) (cx:Cx α) (v:Value) (p:α):Prop :=
 (v=.map none∧C.len p=0)∨∃b clock es,v=.map (some b)∧cx.w.heap[b]?=some (.map es clock)∧Szd es clock (C.len p) ∧
  (∀i j,i < C.len p→j < C.len p→C.mkey p i=C.mkey p j→i=j) ∧
  (∀(i:Nat) e,es[i]?=some e→RD C cx e.key (C.mkey p i))∧∀(i:Nat) e,es[i]?=some e→RD C cx e.val (C.mval p i)
section
variable {X:Ctx α} (hX:XOk X) {g:Gh} {tm:List (D α)} {hs:Obs α} {a:Act} {w:World} (hS:Sim X g tm hs a w)
include hX hS in
theorem mapOf_sound {t:TypeId} {x:D α} {vx:Value} {p:α} (hx:RD X.C (cxOf g hs w) vx x) (h:mapOf X hs t x=some p):MapAt X.C (cxOf g hs w) vx p:=by
 unfold mapOf at h
 split at h
 ·rename_i o
  split at h
  ·rename_i fz q hl
   simp only [Option.some.injEq] at h
   subst h
   cases hx with
   | mp _ b ho =>
    have hrho:g.rho o=some b:=by simpa [cxOf,hl] using ho
    obtain ⟨b',es,clock,hb',hh,h1,h2,h3,h4⟩:=hS.obs o _ hl
    rw [hrho] at hb'
    simp only [Option.some.injEq] at hb'
    subst hb'
    exact .inr ⟨b,clock,es,rfl,hh,h1,h2,h3,h4⟩
  ·simp at h
 ·rename_i q
  simp only [Option.some.injEq] at h
  subst h
  cases hx with
  | mr b clock es _ hav hh h1 h2 h3 h4=>exact .inr ⟨b,clock,es,rfl,hh,h1,h2,h3,h4⟩
 ·cases hx
  exact .inl ⟨rfl,hX.pay.memp _ _ h⟩
 ·simp at h
theorem find_at {C:Pay α} (_hC:PayOk C) {P:Program} {cx:Cx α} {kt:TypeId} {s:Bool×List KC} (hk:keyOkD P kt s=true) {p:α} {es:Array MapEntry} (hsz:es.size=C.len p)
  (hes:∀(i:Nat) e,es[i]?=some e→RD C cx e.key (C.mkey p i)) {kv:Value} {k:D α} (hkr:RD C cx kv k) (hks:shp k=some s) (hsh:∀i,i < C.len p→shp (C.mkey p i)=shp k) (w:World) :
  ((Instr.findKey kt kv es.toList).run P w=.ok none w∧∀(i:Nat) e,es[i]?=some e→C.mkey p i≠k∧e.key≠kv) ∨
  ∃(j:Nat) (e:MapEntry),(Instr.findKey kt kv es.toList).run P w=.ok (some (j,e.val)) w∧es[j]?=some e∧e.key=kv∧C.mkey p j=k:=by
 have K:=keyed_ok hk
 have hlt:∀(i:Nat) e,es[i]?=some e→i < C.len p:=by
  intro i e he
  rw [←hsz]
  rcases Nat.lt_or_ge i es.size with h | h
  ·exact h
  ·simp [Array.getElem?_eq_none h] at he
 have hiff:∀(i:Nat) e,es[i]?=some e→(e.key=kv↔C.mkey p i=k):=fun i e he =>
  key_det (hes i e he) hkr (by rw [hsh i (hlt i e he)];exact hks) hks
 obtain ⟨lx,hlx⟩:=keyOf_ok hk hkr hks
 have hall:∀e∈es.toList,∃l,keyOf P kt e.key=some l:=by
  intro e he
  obtain ⟨i,hi⟩:=List.mem_iff_getElem?.1 he
  have hi:es[i]?=some e:=by simpa using hi
  exact keyOf_ok hk (hes i e hi) (by rw [hsh i (hlt i e hi)];exact hks)
 rcases K.find w hlx es.toList hall with ⟨h1,h2⟩ | ⟨j,e,h1,h2,h3⟩
 ·refine .inl ⟨h1,fun i e he=>?_⟩
  have hm:e∈es.toList:=List.mem_of_getElem? (by simpa using he)
  exact ⟨fun hc=>h2 e hm ((hiff i e he).2 hc),h2 e hm⟩
 ·have h2:es[j]?=some e:=by simpa using h2
  exact .inr ⟨j,e,h1,h2,h3,(hiff j e h2).1 h3⟩
include hX hS in
theorem lookupD_sound (t:TypeId) (x k:D α) (vx vk:Value) (ok:Bool) (hx:RD X.C (cxOf g hs w) vx x) (hk:RD X.C (cxOf g hs w) vk k) (r:Res α) (hr:lookupD X hs t x k ok=r) (hok:r.ok=true) :
  ∃v,(Instr.lookup t vx vk ok).run X.P w=.ok v w∧RD X.C (cxOf g hs w) v r.d∧r.ch=none:=by
 unfold lookupD at hr
 split at hr
 ·rename_i kt et p hu hp
  split at hr
  ·rename_i v b z s hg hz hs'
   subst hr
   simp only [Res.if,Bool.and_eq_true] at hok
   obtain ⟨hko,hle⟩:=hok
   have hma:=mapOf_sound hX hS hx hp
   have K:=keyed_ok hko
   obtain ⟨lx,hlx⟩:=keyOf_ok hko hk hs'
   obtain ⟨hsh,hcv,hgt,hgf⟩:=hX.pay.mget p k v b hg
   obtain ⟨zv,hzv,rfl⟩:=zeroD_some hz
   have hzr:RD X.C (cxOf g hs w) zv (X.C.mzero p):=leD_sound hle (ofV_sound _ _ zv)
   have fin:∀u,RD X.C (cxOf g hs w) u v→RD X.C (cxOf g hs w) (if ok then .tuple #[u,.bool b] else u) (bif ok then .tup [v,.bool b] else v):=by
    intro u hu
    cases ok with
    | false=>exact hu
    | true =>
     refine .tup _ _ rfl fun i y c hy hc=>?_
     match i with
     | 0=>simp at hy hc;subst hy hc;exact hu
     | 1=>simp at hy hc;subst hy hc;exact .bool b
     | n+2=>simp at hc
   rcases hma with ⟨rfl,h0⟩ | ⟨bl,clock,es,rfl,hh,⟨hsz,hst⟩,hd,hek,hev⟩
   ·have hb:b=false:=by
     cases b with
     | false=>rfl
     | true=>obtain ⟨i,hi,_⟩:=hgt rfl;omega
    subst hb
    have hv:=(hgf rfl).2
    subst hv
    refine ⟨if ok then .tuple #[zv,.bool false] else zv,?_,fin zv hzr,rfl⟩
    have hfk:(Instr.findKey kt vk []).run X.P w=.ok none w:=by
     rcases K.find w hlx [] (by simp) with ⟨h1,_⟩ | ⟨j,e,_,h2,_⟩
     ·exact h1
     ·simp at h2
    simp [Instr.lookup,run_underlying hu,K.check w true hlx,hfk,run_zero w hzv]
   ·have hh:w.heap[bl]?=some (.map es clock):=hh
    rcases find_at hX.pay hko hsz hek hk hs' hsh w with ⟨h1,h2⟩ | ⟨j,e,h1,h2,h3,h4⟩
    ·have hb:b=false:=by
      cases b with
      | false=>rfl
      | true =>
       obtain ⟨i,hi,he,_⟩:=hgt rfl
       have hlt:i < es.size:=by omega
       exact absurd he (h2 i es[i] (by simp [hlt])).1
     subst hb
     have hv:=(hgf rfl).2
     subst hv
     refine ⟨if ok then .tuple #[zv,.bool false] else zv,?_,fin zv hzr,rfl⟩
     simp [Instr.lookup,run_underlying hu,MapKept.run_getObj_map hh,K.check w _ hlx,h1,run_zero w hzv]
    ·have hj:j < X.C.len p:=by
      rw [←hsz]
      rcases Nat.lt_or_ge j es.size with h | h
      ·exact h
      ·simp [Array.getElem?_eq_none h] at h2
     have hb:b=true:=by
      cases b with
      | true=>rfl
      | false=>exact absurd h4 ((hgf rfl).1 j hj)
     subst hb
     obtain ⟨i,hi,he,hv⟩:=hgt rfl
     have:i=j:=hd i j hi hj (he.trans h4.symm)
     subst this
     subst hv
     refine ⟨if ok then .tuple #[e.val,.bool true] else e.val,?_,fin e.val (hev i e h2),rfl⟩
     simp [Instr.lookup,run_underlying hu,MapKept.run_getObj_map hh,K.check w _ hlx,h1]
  ·subst hr;simp [Res.no] at hok
 ·subst hr;simp [Res.no] at hok
include hX hS in
theorem makeMapD_sound (dst:Nat) (t:TypeId) (r:Res α) (hr:makeMapD X tm hs dst t=r) (hok:r.ok=true) :
  ∃v w',(Instr.makeMap t none).run X.P w=.ok v w'∧OpOut X g tm hs a r v w':=by
 unfold makeMapD at hr
 split at hr
 ·rename_i kt et p hu hp
  subst hr
  have h0:=hX.pay.memp _ _ hp
  refine ⟨_,_,run_makeMap t w,bind1 g.rho dst (some w.heap.size),?_,?_⟩
  ·exact new_sound hX hS dst dst hok (.map false p) (.map #[] 0) w (BelowD.refl _ _) rfl fun cx _ hh=>⟨_,#[],0,rfl,hh,⟨by simp [h0],MapKept.stamped_empty _⟩,fun i j hi=>by omega,fun i e he=>by simp at he,fun i e he=>by simp at he⟩
  ·refine .mp dst w.heap.size ?_
   simp only [Option.getD_some,cxOf,look_rebind,if_true]
   simp [bind1]
 ·subst hr;simp [Res.no] at hok
theorem set_size {w:World} {b:Nat} {es es':Array MapEntry} {clock clock':Nat} (hh:w.heap[b]?=some (.map es clock)) :
  ∀(k:Nat) cells T fz,w.heap[k]?=some (.cells cells T fz)→∃cells' T' fz',({ w with heap:=w.heap.setIfInBounds b (.map es' clock') }:World).heap[k]?=some (.cells cells' T' fz')∧cells'.size=cells.size:=by
 intro k cells T fz hk
 have hkb:k≠b:=by rintro rfl;rw [hh] at hk;simp at hk
 exact ⟨cells,T,fz,by rw [(heap_set (o':=.map es' clock') hh).2 k hkb];exact hk,rfl⟩
include hX hS in
theorem map_write {o b:Nat} {p q:α} (hl:look hs o=some (.map false p)) (hrho:g.rho o=some b) {es es':Array MapEntry} {clock clock':Nat} (hh:w.heap[b]?=some (.map es clock)) (hsz:Szd es' clock' (X.C.len q))
  (hd:∀i j,i < X.C.len q→j < X.C.len q→X.C.mkey q i=X.C.mkey q j→i=j)
  (hek:∀(i:Nat) e,es'[i]?=some e→RD X.C (cxOf g hs w) e.key (X.C.mkey q i)) (hev:∀(i:Nat) e,es'[i]?=some e→RD X.C (cxOf g hs w) e.val (X.C.mval q i)) :
  Sim X g tm (upd hs o (.map false q)) a { w with heap:=w.heap.setIfInBounds b (.map es' clock') }:=by
 obtain ⟨h1,h2⟩:=heap_set (o':=.map es' clock') hh
 refine sim_write hX hS hl rfl hrho rfl trivial ⟨rfl,rfl,rfl,Nat.le_refl _⟩ (by simp) (fun k hk=>h2 k hk) (set_size hh) fun hle=>?_
 exact ⟨b,es',clock',rfl,h1,hsz,hd,fun i e he=>RD.grow hX.pay hle (hek i e he),fun i e he=>RD.grow hX.pay hle (hev i e he)⟩
theorem CxLe.refl (C:Pay α) (cx:Cx α):CxLe C (fun _=>false) cx cx:=⟨fun _ _ _ h=>h,fun _ _ _ h=>h,fun _ _ _ h=>h,fun _ _ p _ h=>⟨p,h,rfl,rfl⟩,fun _ c T f h=>⟨c,T,f,h,rfl⟩⟩
include hX hS in
theorem mapPut_sound (t:TypeId) (o b:Nat) (k v':D α) (vk vv:Value) {kt et:TypeId} {p q:α} {s:Bool×List KC} (hu:X.P.underlying t=some (.map kt et)) (hl:look hs o=some (.map false p)) (hrho:g.rho o=some b)
  (hk:RD X.C (cxOf g hs w) vk k) (hv':RD X.C (cxOf g hs w) vv v') (hq:X.C.mput p k v'=some q) (hs':shp k=some s) (hko:keyOkD X.P kt s=true) :
  ∃w',(Instr.mapUpdate t (.map (some b)) vk vv).run X.P w=.ok () w'∧Sim X g tm (upd hs o (.map false q)) a w':=by
 obtain ⟨b',es,clock,hb',hh,⟨hsz,hst⟩,hd,hek,hev⟩:=hS.obs o _ hl
 rw [hrho] at hb'
 simp only [Option.some.injEq] at hb'
 subst hb'
 have hh:w.heap[b]?=some (.map es clock):=hh
 have K:=keyed_ok hko
 obtain ⟨lx,hlx⟩:=keyOf_ok hko hk hs'
 obtain ⟨hsh,hck,hput⟩:=hX.pay.mput p k v' q hq
 have hlt:∀(i:Nat) e,es[i]?=some e→i < X.C.len p:=by
  intro i e he
  rw [←hsz]
  rcases Nat.lt_or_ge i es.size with h | h
  ·exact h
  ·simp [Array.getElem?_eq_none h] at he
 rcases find_at hX.pay hko hsz hek hk hs' hsh w with ⟨h1,h2⟩ | ⟨j,e,h1,h2,h3,h4⟩
 ·rcases hput with ⟨i,hi,he,_⟩ | ⟨hno,hlen,hold,hnk,hnv⟩
  ·have hi':i < es.size:=by omega
   exact absurd he (h2 i es[i] (by simp [hi'])).1
  refine ⟨_,by simp only [Instr.mapUpdate,Sem.run_bind,run_underlying hu,Result.andThen_ok,MapKept.run_getObj_map hh,K.check w false hlx,h1,MapKept.run_setObj_map _ hh];rfl,?_⟩
  refine map_write hX hS hl hrho hh ⟨by simp [hsz,hlen],MapKept.stamped_push hst fun x hx=>?_⟩ (fun i j hi hj heq=>?_) (fun i e he=>?_) (fun i e he=>?_)
  ·obtain ⟨i,hi⟩:=List.mem_iff_getElem?.1 hx
   exact (h2 i x (by simpa using hi)).2
  ·rw [hlen] at hi hj
   by_cases h5:i < X.C.len p<;>by_cases h6:j < X.C.len p
   ·rw [(hold i h5).1,(hold j h6).1] at heq;exact hd i j h5 h6 heq
   ·obtain rfl:j=X.C.len p:=by omega
    rw [(hold i h5).1,hnk] at heq;exact absurd heq (hno i h5)
   ·obtain rfl:i=X.C.len p:=by omega
    rw [(hold j h6).1,hnk] at heq;exact absurd heq.symm (hno j h6)
   ·omega
  ·rw [Array.getElem?_push] at he
   split at he
   ·rename_i hi
    simp only [Option.some.injEq] at he
    subst he
    rw [hi,hsz,hnk];exact hk
   ·rw [(hold i (hlt i e he)).1];exact hek i e he
  ·rw [Array.getElem?_push] at he
   split at he
   ·rename_i hi
    simp only [Option.some.injEq] at he
    subst he
    rw [hi,hsz];exact hv'.leV hnv
   ·rw [(hold i (hlt i e he)).2];exact hev i e he
 ·rcases hput with ⟨i,hi,he,hlen,hold,hnv⟩ | ⟨hno,_⟩
  ·have hj:=hlt j e h2
   obtain rfl:i=j:=hd i j hi hj (he.trans h4.symm)
   refine ⟨_,by simp only [Instr.mapUpdate,Sem.run_bind,run_underlying hu,Result.andThen_ok,MapKept.run_getObj_map hh,K.check w false hlx,h1,h2,Option.map_some,Option.getD_some,h3,K.stays w hlx,MapKept.run_setObj_map _ hh];rfl,?_⟩
   refine map_write hX hS hl hrho hh ⟨by simp [hsz,hlen],MapKept.stamped_modify hst _ _ (fun e _=>rfl) (fun e' _ he'=>?_)⟩ (fun m n hm hn heq=>?_) (fun m e' he'=>?_) (fun m e' he'=>?_)
   ·first | rfl | (rw [h2] at he';simp only [Option.some.injEq] at he';subst he';exact h3.symm)
   ·rw [hlen] at hm hn
    rw [(hold m hm).1,(hold n hn).1] at heq
    exact hd m n hm hn heq
   ·rw [Array.getElem?_modify] at he'
    split at he'
    ·rename_i hm
     subst hm
     rw [h2] at he'
     simp only [Option.map_some,Option.some.injEq] at he'
     subst he'
     rw [(hold i hi).1,he];exact hk
    ·rw [(hold m (hlt m e' he')).1];exact hek m e' he'
   ·rw [Array.getElem?_modify] at he'
    split at he'
    ·rename_i hm
     subst hm
     rw [h2] at he'
     simp only [Option.map_some,Option.some.injEq] at he'
     subst he'
     exact hv'.leV hnv
    ·rename_i hm
     rw [(hold m (hlt m e' he')).2 (fun h=>hm h.symm)];exact hev m e' he'
  ·exact absurd h4 (hno j (hlt j e h2))
end
end Go.Eng
