/-
  THE ENGINE, PART K: BOXES, STORES, APPEND.
-/
import Derived.Test.YtlnkjdedeegajaaGreatDoorEngJ
namespace Go.Eng
open Go.RowKit
variable {α:Type}
theorem overV_get:∀(us vs:List Value) (i k:Nat),i+us.length≤vs.length→(overV vs i us)[k]?=if i≤k∧k < i+us.length then us[k - i]? else vs[k]?
  | [],vs,i,k,_=>by
    have:¬ (i≤k∧k < i+([]:List Value).length):=by simp
    simp only [overV,this,if_false]
  | u::us,vs,i,k,h=>by
    simp only [List.length_cons] at h
    rw [overV,overV_get us (vs.set i u) (i+1) k (by simp;omega)]
    by_cases hk:k=i
    · subst hk
      rw [if_neg (by omega),if_pos (by simp only [List.length_cons];omega),List.getElem?_set_self (by omega),Nat.sub_self]
      rfl
    · by_cases h1:i+1≤k∧k < i+1+us.length
      · have h2:i≤k∧k < i+(us.length+1):=by omega
        simp only [h1,and_self,if_true,List.length_cons,h2]
        have:k - i=(k - (i+1))+1:=by omega
        rw [this,List.getElem?_cons_succ]
      · have h2:¬ (i≤k∧k < i+(us.length+1)):=by omega
        simp only [h1,if_false,List.length_cons,h2]
        rw [List.getElem?_set_ne (by omega)]
theorem overL_get:∀(us vs:List (D α)) (i k:Nat),i+us.length≤vs.length→(overL vs i us)[k]?=if i≤k∧k < i+us.length then us[k - i]? else vs[k]?
  | [],vs,i,k,_=>by
    have:¬ (i≤k∧k < i+([]:List (D α)).length):=by simp
    simp only [overL,this,if_false]
  | u::us,vs,i,k,h=>by
    simp only [List.length_cons] at h
    rw [overL,overL_get us (setT vs i u) (i+1) k (by rw [setT_length];omega),setT_eq]
    by_cases hk:k=i
    · subst hk
      rw [if_neg (by omega),if_pos (by simp only [List.length_cons];omega),List.getElem?_set_self (by omega),Nat.sub_self]
      rfl
    · by_cases h1:i+1≤k∧k < i+1+us.length
      · have h2:i≤k∧k < i+(us.length+1):=by omega
        simp only [h1,and_self,if_true,List.length_cons,h2]
        have:k - i=(k - (i+1))+1:=by omega
        rw [this,List.getElem?_cons_succ]
      · have h2:¬ (i≤k∧k < i+(us.length+1)):=by omega
        simp only [h1,if_false,List.length_cons,h2]
        rw [List.getElem?_set_ne (by omega)]
theorem isNil_eq {l:List Nat} (h:isNil l=true):l=[]:=by cases l<;>simp_all [isNil]
section
variable {X:Ctx α} (hX:XOk X) {g:Gh} {tm:List (D α)} {hs:Obs α} {a:Act} {w:World} (hS:Sim X g tm hs a w)
theorem storeCellsD_sound {C:Pay α} {cx:Cx α} {P:Program} {t:TypeId} {v:Value} {d:D α} {cs:List (D α)} (hd:RD C cx v d) (h:storeCellsD P t d=some cs) :
    RDcells C cx v.cells.toList cs∧szO P t=some cs.length:=by
  unfold storeCellsD at h
  split at h
  · rename_i n cs' _ hsz
    cases hn:Nat.beq cs'.length n with
    | false=>simp [hn] at h
    | true =>
      simp only [hn,cond_true,Option.some.injEq] at h
      subst h
      obtain rfl:=Nat.eq_of_beq_eq_true hn
      have hd':=hd
      cases hd with | agg vs _ _ _ _ =>
      exact ⟨RDcells.of_agg hd',hsz⟩
  · rename_i d _ _ _ _ hsz
    cases ho:isOne d with
    | false=>simp [ho] at h
    | true =>
      simp only [ho,cond_true,Option.some.injEq] at h
      subst h
      have h1:=oneCell_of_isOne hd ho
      rw [cells_one h1]
      refine ⟨⟨rfl,fun i u hu=>?_,fun i u c hu hc=>?_⟩,hsz⟩
      · cases i<;>simp at hu
        subst hu;exact h1
      · cases i<;>simp at hu hc
        subst hu hc;exact hd
  · simp at h
theorem ObRel.ofCells {C:Pay α} {cx:Cx α} {b:Nat} {vs:Array Value} {cs:List (D α)} {T:TypeId} {fz:Bool} (h:RDcells C cx vs.toList cs) (hh:cx.w.heap[b]?=some (.cells vs T (0,0))) :
    ObRel C cx (some b) (.box fz cs) :=
  ⟨b,vs,T,rfl,hh,by simpa using h.1,fun i v hv=>h.2.1 i v (by simpa using hv),fun i v c hv hc=>h.2.2 i v c (by simpa using hv) hc⟩
theorem RDcells.kill {C:Pay α} (hC:PayOk C) {ns:Nat→Bool} {cx cx':Cx α} (hle:CxLe C ns cx cx') {vs:List Value} {cs:List (D α)} (h:RDcells C cx vs cs):RDcells C cx' vs (killL ns cs):=by
  refine ⟨by rw [killL_length];exact h.1,h.2.1,fun i v c hv hc=>?_⟩
  rw [killL_get] at hc
  obtain ⟨c',hc',rfl⟩:=Option.map_eq_some_iff.1 hc
  exact RD.kill hC hle (h.2.2 i v c' hv hc')
theorem RDcells.grow {C:Pay α} (hC:PayOk C) {cx cx':Cx α} (hle:CxLe C (fun _=>false) cx cx') {vs:List Value} {cs:List (D α)} (h:RDcells C cx vs cs):RDcells C cx' vs cs:=by
  have:=h.kill hC hle
  rwa [killL_none] at this
include hX hS in
theorem boxD_sound (dst:Nat) (hdst:Nat.blt dst 40000=true) (t:TypeId) (vs:Array Value) (cs:List (D α)) (hc:RDcells X.C (cxOf g hs w) vs.toList cs) :
    OpOut X g tm hs a (boxD tm hs dst cs) (.pointer (some ⟨w.heap.size,0,none⟩)) (w.alloc (.cells vs t)):=by
  refine ⟨bind1 g.rho dst (some w.heap.size),?_,?_⟩
  · refine new_sound hX hS dst dst hdst (.box false (killL (nsOf dst dst) cs)) (.cells vs t) w (BelowD.refl _ _) rfl fun cx hle hh=>?_
    exact ObRel.ofCells (hc.kill hX.pay hle) hh
  · refine .ptr _ _ _ ?_
    simp [cxOf,boxD,look_rebind,bind1]
theorem zeroCells_sound {C:Pay α} {cx:Cx α} {v:Value} (h:goodCells (cellsD (ofV v:D α))=true):RDcells C cx v.cells.toList (cellsD (ofV v)):=by
  have hr:=ofV_sound C cx v
  by_cases ha:∃cs,(ofV v:D α)=.agg cs
  · obtain ⟨cs,he⟩:=ha
    rw [he] at hr ⊢
    have hr':=hr
    cases hr with | agg vs _ _ _ _=>exact RDcells.of_agg hr'
  · have he:cellsD (ofV v:D α)=[ofV v]:=by
      cases hq:(ofV v:D α)<;>simp_all [cellsD]
    rw [he] at h ⊢
    simp only [goodCells,List.all_cons,List.all_nil,Bool.and_true] at h
    have h1:=oneCell_of_isOne hr h
    rw [cells_one h1]
    refine ⟨rfl,fun i u hu=>?_,fun i u c hu hc=>?_⟩
    · cases i<;>simp at hu
      subst hu;exact h1
    · cases i<;>simp at hu hc
      subst hu hc;exact hr
theorem szO_cells {P:Program} (w:World) {t:TypeId} {n:Nat} {v:Value} (h:szO P t=some n) (hv:v.cells.size=n) (ad:Addr) :
    (storeVar t ad v).run P w=(storeCells ad v.cells.toList).run P w:=by
  simp [storeVar,run_sizeOf' P w h,hv]
theorem setRow_size_of {w:World} {b:Nat} {cur cs:Array Value} {T0:TypeId} (hh:w.heap[b]?=some (.cells cur T0 (0,0))) (hs:cs.size=cur.size) :
    ∀(k:Nat) cells T fz,w.heap[k]?=some (.cells cells T fz)→∃cells' T' fz',(w.setRow b cs).heap[k]?=some (.cells cells' T' fz')∧cells'.size=cells.size:=by
  intro k cells T fz hk
  by_cases hkb:k=b
  · subst hkb
    rw [hh] at hk
    simp only [Option.some.injEq,Obj.cells.injEq] at hk
    obtain ⟨rfl,rfl,rfl⟩:=hk
    exact ⟨cs,T0,(0,0),setRow_heap w k cur cs T0 (0,0) hh,hs⟩
  · exact ⟨cells,T,fz,by rw [setRow_other w b k cs hkb];exact hk,rfl⟩
theorem RD.kill_cx0 {C:Pay α} (hC:PayOk C) {g:Gh} {hs hs':Obs α} {w w':World} (hle:CxLe C (fun _=>false) (cxOf g hs w) (cxOf g hs' w')) {v:Value} {d:D α}
    (h:RD C (cx0 w (cxOf g hs w).av) v d):RD C (cxOf g hs' w') v d:=by
  refine RD.grow hC (cx:=cx0 w (cxOf g hs w).av) ⟨hle.cell,hle.av,fun o b _ h=>by simp [cx0] at h,fun o b p _ h=>by simp [cx0] at h,hle.size⟩ h
theorem setRow_belowL {δ:Bool} {w:World} {B b:Nat} {L:Nat→Prop} (cs:Array Value) (hB:B≤b∨L b) (hsz:∀(k:Nat) cells T fz,w.heap[k]?=some (.cells cells T fz)→∃cells' T' fz',(w.setRow b cs).heap[k]?=some (.cells cells' T' fz')∧cells'.size=cells.size):BelowL δ B L w (w.setRow b cs) :=
  ⟨rfl, rfl, rfl, by simp, fun k hk hL => setRow_other w b k cs (by rintro rfl; rcases hB with h | h; · omega
                                                                    · exact hL h),fun k cells T fz _ h=>hsz k cells T fz h,fun _=>Nat.le_refl _⟩
include hX hS in
theorem storeD_sound (t:TypeId) (x y:D α) (vx vy:Value) (hx:RD X.C (cxOf g hs w) vx x) (hy:RD X.C (cxOf g hs w) vy y) (r:Res α) (hr:storeD X tm hs t x y=r) (hok:r.ok=true) :
    ∃w',(Instr.storeAt t vx vy).run X.P w=.ok () w'∧OpOut X g tm hs a r undef w':=by
  unfold storeD at hr
  split at hr
  · rename_i cs hcs
    obtain ⟨hc,hsz⟩:=storeCellsD_sound hy hcs
    have hvs:vy.cells.size=cs.length:=by simpa using hc.1
    split at hr
    · rename_i o off
      split at hr
      · rename_i old hl
        subst hr
        have hle:=Nat.le_of_ble_eq_true hok
        cases hx with | ptr _ _ b ho =>
        have hrho:g.rho o=some b:=by simpa [cxOf,hl] using ho
        obtain ⟨b',cells,T,hb',hh,hs',h1,hrd⟩:=hS.obs o _ hl
        obtain rfl:b=b':=by rw [hrho] at hb';simpa using hb'
        have hh:w.heap[b]?=some (.cells cells T (0,0)):=hh
        have hrun:=run_storeCells_at X.P b off T vy.cells.toList 0 cells w hh (by simp;omega) (fun v hv=>by
          obtain ⟨i,hi⟩:=List.mem_iff_getElem?.1 hv
          exact hc.2.1 i v hi)
        have hov:=overV_append vy.cells.toList cells.toList off (by simp;omega)
        simp only [Nat.add_zero] at hrun
        rw [←hov] at hrun
        have hlen:(overV cells.toList off vy.cells.toList).length=cells.size:=by rw [hov];simp;omega
        refine ⟨_,by simp only [Instr.storeAt,Instr.sureAddr,Sem.run_bind,Sem.run_pure,Result.andThen_ok,szO_cells w hsz hvs];exact hrun,g.rho,?_,.lit _⟩
        refine sim_write hX hS hl rfl hrho rfl trivial ⟨rfl,rfl,rfl,Nat.le_refl _⟩ (by simp) (fun k hk=>setRow_other w b k _ hk) (setRow_size_of hh (by simpa using hlen)) fun hle'=>?_
        refine ObRel.ofCells (T:=T) ?_ (setRow_heap w b cells _ T (0,0) hh)
        have hold:RDcells X.C (cxOf g hs w) cells.toList old:=⟨by simpa using hs',fun i v hv=>h1 i v (by simpa using hv),fun i v c hv hc=>hrd i v c (by simpa using hv) hc⟩
        exact (hold.grow hX.pay hle').over _ _ _ _ off (hc.grow hX.pay hle')
      · subst hr;simp [Res.no] at hok
    · rename_i o i off
      split at hr
      · rename_i p hl
        split at hr
        · rename_i ds ns hln
          split at hr
          · rename_i q hq
            subst hr
            simp only [Bool.and_eq_true] at hok
            obtain ⟨⟨h1,h2⟩,h3⟩:=hok
            have h1:=Nat.le_of_ble_eq_true h1
            obtain rfl:=isNil_eq h3
            cases hx with | epr _ _ _ b p' ho hi =>
            rw [arr_of (g:=g) (w:=w) hl] at ho
            simp only [Option.some.injEq,Prod.mk.injEq] at ho
            obtain ⟨hrho,rfl⟩:=ho
            have hob:=hS.obs o _ hl
            rw [hrho] at hob
            obtain ⟨cells,T,hh,hsz',hbig,hc1,hcr⟩:=hob
            have hh:w.heap[b]?=some (.cells cells T (0,0)):=hh
            have hfit:i * X.C.esz p+X.C.esz p≤cells.size:=by
              have:(i+1) * X.C.esz p≤X.C.len p * X.C.esz p:=Nat.mul_le_mul_right _ hi
              rw [Nat.add_mul,Nat.one_mul] at this;omega
            obtain ⟨hlen,hget⟩:=lendAll_sound hX hS (cxOf g hs w).av (fun _ h=>h) cs ds [] hln (by simp)
            have hrun:=run_storeCells_at X.P b (i * X.C.esz p+off) T vy.cells.toList 0 cells w hh (by simp;omega) (fun v hv=>by
              obtain ⟨i,hi⟩:=List.mem_iff_getElem?.1 hv
              exact hc.2.1 i v hi)
            have hov:=overV_append vy.cells.toList cells.toList (i * X.C.esz p+off) (by simp;omega)
            simp only [Nat.add_zero] at hrun
            rw [←hov] at hrun
            have hlen':(overV cells.toList (i * X.C.esz p+off) vy.cells.toList).length=cells.size:=by rw [hov];simp;omega
            obtain ⟨q1,q2,q3,q4,q5,q6⟩:=hX.pay.set p i _ q hi hq
            refine ⟨_,by simp only [Instr.storeAt,Instr.sureAddr,Sem.run_bind,Sem.run_pure,Result.andThen_ok,szO_cells w hsz hvs];exact hrun,g.rho,?_,.lit _⟩
            refine sim_write hX hS hl rfl hrho rfl ⟨q1,q2⟩ ⟨rfl,rfl,rfl,Nat.le_refl _⟩ (by simp) (fun k hk=>setRow_other w b k _ hk) (setRow_size_of hh (by simpa using hlen')) fun hle'=>?_
            refine ⟨_,T,setRow_heap w b cells _ T (0,0) hh,?_,?_,fun k u hu=>?_,fun j k u d hj hu hd=>?_⟩
            · rw [q1,q2];simpa [hlen'] using hsz'
            · rw [q1,q3];exact hbig
            · simp only [List.getElem?_toArray] at hu
              rw [overV_get _ _ _ _ (by simp;omega)] at hu
              split at hu
              · exact hc.2.1 _ _ hu
              · exact hc1 _ _ (by simpa using hu)
            · rw [q1] at hj
              rw [q2] at hu
              simp only [List.getElem?_toArray] at hu
              rw [overV_get _ _ _ _ (by simp;omega)] at hu
              have hk:k < X.C.esz p:=by
                rw [←q2,←hX.pay.elen q j (by omega)]
                rcases Nat.lt_or_ge k (X.C.elem q j).length with h | h
                · exact h
                · simp [List.getElem?_eq_none h] at hd
              have hvl:vy.cells.toList.length=vy.cells.size:=by simp
              by_cases hji:j=i
              · subst hji
                have hel:=hX.pay.elen p j hj
                have hc0:(overL (X.C.elem p j) off ds)[k]?=some ((overL (X.C.elem p j) off ds)[k]'(by rw [q5];exact hk)):=by simp
                refine RD.le ?_ (q6 k _ d hc0 hd)
                have hg:=overL_get ds (X.C.elem p j) off k (by rw [hlen,hel];exact h1)
                rw [hc0] at hg
                by_cases hin:off≤k∧k < off+ds.length
                · rw [if_pos hin] at hg
                  rw [if_pos (by omega)] at hu
                  have hidx:j * X.C.esz p+k - (j * X.C.esz p+off)=k - off:=by omega
                  rw [hidx] at hu
                  have hlt:k - off < cs.length:=by omega
                  have:=hget (k - off) u cs[k - off] _ (by simp [hlt]) hg.symm (hc.2.2 (k - off) u _ hu (by simp [hlt]))
                  exact RD.kill_cx0 hX.pay hle' this
                · rw [if_neg hin] at hg
                  rw [if_neg (by omega)] at hu
                  have:=hcr j k u _ hj (by simpa using hu) hg.symm
                  exact this.grow hX.pay hle'
              · rw [q4 j hji] at hd
                have hne:¬ (i * X.C.esz p+off≤j * X.C.esz p+k∧j * X.C.esz p+k < i * X.C.esz p+off+vy.cells.toList.length):=by
                  rintro ⟨ha,hb⟩
                  rcases Nat.lt_or_gt_of_ne hji with h | h
                  · have:(j+1) * X.C.esz p≤i * X.C.esz p:=Nat.mul_le_mul_right _ h
                    rw [Nat.add_mul,Nat.one_mul] at this;omega
                  · have:(i+1) * X.C.esz p≤j * X.C.esz p:=Nat.mul_le_mul_right _ h
                    rw [Nat.add_mul,Nat.one_mul] at this;omega
                rw [if_neg hne] at hu
                exact (hcr j k u d hj (by simpa using hu) hd).grow hX.pay hle'
          · subst hr;simp [Res.no] at hok
        · subst hr;simp [Res.no] at hok
      · subst hr;simp [Res.no] at hok
    · subst hr;simp [Res.no] at hok
  · subst hr;simp [Res.no] at hok
end
end Go.Eng
