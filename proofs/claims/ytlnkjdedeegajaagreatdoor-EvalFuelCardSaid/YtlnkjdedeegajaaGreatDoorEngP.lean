/-
  THE ENGINE, PART P: ONE OPERATION OF A REGION.
-/
import Derived.Test.YtlnkjdedeegajaaGreatDoorEngMp
import Derived.Test.YtlnkjdedeegajaaGreatDoorEngO
namespace Go.Eng
open Go.RowKit
variable {α:Type}
section
variable {X:Ctx α} (hX:XOk X) {g:Gh} {tm:List (D α)} {hs:Obs α} {a:Act} {w:World} (hS:Sim X g tm hs a w)
include hX hS in
theorem evK_sound {ks:List (Nat×Bool)} (hk:holds a.tmps ks) (x:Operand):RD X.C (cxOf g hs w) (a.eval x) (evK X tm ks x):=by
  cases x with
  | tmp t=>exact RG.strip hk (hS.tm t)
  | const v=>exact ofV_sound X.C _ v
  | global i =>
    simp only [evK]
    split
    · rename_i cs h
      have h1:=(glob_out hX hS [] i cs h).1
      refine RD.grow hX.pay (cx:=cx0 w (avBut g hs w [])) (cx':=cxOf g hs w) ⟨fun b ob _ h=>h,fun b ob _ h h'=>h ⟨h',fun o ob ho=>by simp at ho⟩,fun _ _ _ h=>by simp [cx0] at h,fun _ _ _ _ h=>by simp [cx0] at h,fun b cells T fz h=>⟨cells,T,fz,h,rfl⟩⟩ h1
    · exact .bad _
  | func f =>
    simp only [evK]
    cases hb:Nat.blt f mvB with
    | false=>exact .bad _
    | true =>
      exact .fn f f #[] #[] #[] [] rfl (fun i v c h=>by simp at h) (by simp only [mkFn,hb,cond_true])
include hX hS in
theorem mapUpdateD_sound (t:TypeId) (x k v:D α) (vx vk vv:Value) (hx:RD X.C (cxOf g hs w) vx x) (hk:RD X.C (cxOf g hs w) vk k) (hv:RD X.C (cxOf g hs w) vv v) (r:Res α) (hr:mapUpdateD X tm hs t x k v=r) (hok:r.ok=true) :
    ∃w',(Instr.mapUpdate t vx vk vv).run X.P w=.ok () w'∧OpOut X g tm hs a r undef w':=by
  unfold mapUpdateD at hr
  split at hr
  · rename_i kt et o hu
    split at hr
    · rename_i p hl
      split at hr
      · rename_i v' ns hlend
        split at hr
        · rename_i q s hq hs'
          subst hr
          simp only [Bool.and_eq_true] at hok
          obtain ⟨hko,hno⟩:=hok
          cases hx with
          | mp _ b ho =>
          have hrho:g.rho o=some b:=by simpa [cxOf,hl] using ho
          cases hns:isNil ns with
          | true =>
            obtain rfl:=isNil_eq hns
            have hv':RD X.C (cxOf g hs w) vv v':=RD.kill_cx0 hX.pay (CxLe.refl _ _) ((lendAll_sound hX hS _ (fun _ h=>h) _ _ _ hlend (by simp)).2 0 vv v v' rfl rfl hv)
            obtain ⟨w',h1,h2⟩:=mapPut_sound hX hS t o b k v' vk vv hu hl hrho hk hv' hq hs' hko
            exact ⟨w',h1,g.rho,h2,.lit _⟩
          | false =>
            rw [hns] at hno
            simp only [cond_false,Bool.and_eq_true,List.all_eq_true,Bool.not_eq_true'] at hno
            obtain ⟨hcl,hno⟩:=hno
            obtain ⟨hS1,hle⟩:=sim_freeze hX hS ns
            have hl1:look (freeze hs ns) o=some (.map false p):=by
              rw [look_freeze,if_neg (fun hm=>by have:=hno o hm;simp at this)]
              exact hl
            have hv':RD X.C (cxOf g (freeze hs ns) w) vv v':=RD.closedTo hX.pay (frozen_of_out hS) hcl ((lendAll_sound hX hS (avBut g hs w ns) avBut_av _ _ _ hlend avBut_ns).2 0 vv v v' rfl rfl hv)
            obtain ⟨w',h1,h2⟩:=mapPut_sound hX hS1 t o b k v' vk vv hu hl1 hrho (RD.grow hX.pay hle hk) hv' hq hs' hko
            refine ⟨w',h1,g.rho,?_,.lit _⟩
            simp only [hns,cond_false]
            exact h2
        · subst hr;simp [Res.no] at hok
      · subst hr;simp [Res.no] at hok
    · subst hr;simp [Res.no] at hok
  · subst hr;simp [Res.no] at hok
def OpPost (X:Ctx α) (g:Gh) (tm:List (D α)) (hs:Obs α) (a:Act) (w:World) (r:Res α) (n:Result Next):Prop :=
  (∃v w',n=.ok (.value v) w'∧OpOut X g tm hs a r v w')∨(∃w',n=.ok .skip w'∧OpOut X g tm hs a r undef w') ∨
  ∃f vs,n=.ok (.enter f vs) w∧Calls X.P f vs w fun e w'=>∃v,e=.returned v∧OpOut X g tm hs a r v w'
theorem OpPost.wp {r:Res α} {o:Oper} (h:OpPost X g tm hs a w r ((execOp a.eval o).run X.P w)) {K:Act→World→Prop} {Q:Exit→Act→World→Prop}
    (hK:∀v w',OpOut X g tm hs a r v w'→K (a.put o.dst v) w'):o.wp X.P a w K Q:=by
  unfold Oper.wp
  rcases h with ⟨v,w',h1,h2⟩ | ⟨w',h1,h2⟩ | ⟨f,vs,h1,h2⟩
  · rw [h1];exact hK v w' h2
  · rw [h1];exact hK undef w' h2
  · rw [h1]
    exact h2.mono fun e w' ⟨v,he,ho⟩=>by subst he;exact hK v w' ho
include hX hS in
theorem OpPost.pure {r:Res α} {v:Value} {n:Result Next} (hn:n=.ok (.value v) w) (hd:RD X.C (cxOf g hs w) v r.d) (hch:r.ch=none):OpPost X g tm hs a w r n :=
  .inl ⟨v,w,hn,OpOut.pure hX hS hch hd⟩
theorem run_v {s:Sem Value} {v:Value} {w':World} {P:Program} (h:s.run P w=.ok v w'):(do pure (Next.value (←s)):Sem Next).run P w=.ok (.value v) w':=by
  simp [h]
theorem lit_eq {C:Pay α} {cx:Cx α} {v:Value} {b:Bool} (h:RD C cx v (.bool b)):v=.bool b:=by cases h;rfl
theorem pairs_get (e:Operand→D α) (ρ:Operand→Value) {C:Pay α} {cx:Cx α} (h:∀x,RD C cx (ρ x) (e x)) (ps:Array (Nat×Operand)) (i:Nat) (p:Nat×D α) (q:Nat×Value)
    (hp:(ps.toList.map fun x=>(x.1,e x.2))[i]?=some p) (hq:(ps.map fun (i,x)=>(i,ρ x))[i]?=some q):q.1=p.1∧RD C cx q.2 p.2:=by
  simp only [List.getElem?_map,Array.getElem?_toList,Array.getElem?_map,Option.map_eq_some_iff] at hp hq
  obtain ⟨x,hx,rfl⟩:=hp
  obtain ⟨y,hy,rfl⟩:=hq
  rw [hx] at hy
  simp only [Option.some.injEq] at hy
  subst hy
  exact ⟨rfl,h _⟩
theorem args_get (e:Operand→D α) (ρ:Operand→Value) {C:Pay α} {cx:Cx α} (h:∀x,RD C cx (ρ x) (e x)) (xs:Array Operand) (i:Nat) (v:Value) (c:D α)
    (hv:(xs.map ρ)[i]?=some v) (hc:(xs.toList.map e)[i]?=some c):RD C cx v c:=by
  simp only [List.getElem?_map,Array.getElem?_toList,Array.getElem?_map,Option.map_eq_some_iff] at hv hc
  obtain ⟨x,hx,rfl⟩:=hv
  obtain ⟨y,hy,rfl⟩:=hc
  rw [hx] at hy
  simp only [Option.some.injEq] at hy
  subst hy
  exact h _
theorem opt_get (e:Operand→D α) (ρ:Operand→Value) {C:Pay α} {cx:Cx α} (h:∀x,RD C cx (ρ x) (e x)) (l:Option Operand):∀d v,l.map e=some d→l.map ρ=some v→RD C cx v d:=by
  intro d v hd hv
  cases l with
  | none=>simp at hd
  | some x=>simp only [Option.map_some,Option.some.injEq] at hd hv;subst hd hv;exact h x
include hX hS in
theorem op_sound (hR:ROk X) {ks:List (Nat×Bool)} (hk:holds a.tmps ks) (o:Oper) (hok:(evalOp X tm hs ks o).ok=true) :
    OpPost X g tm hs a w (evalOp X tm hs ks o) ((execOp a.eval o).run X.P w):=by
  have hno:(Res.no:Res α).ok=true→False:=by simp [Res.no]
  have he:∀x,RD X.C (cxOf g hs w) (a.eval x) (evK X tm ks x):=fun x=>evK_sound hX hS hk x
  obtain ⟨dst,op,type,pos,after,guard⟩:=o
  generalize hr:evalOp X tm hs ks ⟨dst,op,type,pos,after,guard⟩=r at hok ⊢
  unfold evalOp at hr
  cases op
  case move x=>subst hr;exact .pure hX hS (by simp [execOp]) (he x) rfl
  case assign x=>subst hr;exact .pure hX hS (by simp [execOp]) (he x) rfl
  case pick c x y =>
    simp only at hr
    split at hr
    · rename_i cb s hc hs'
      have hcv:=he c
      rw [hc] at hcv
      have hcv:=lit_eq hcv
      have hks:∀x,RD X.C (cxOf g hs w) (a.eval (bif cb then x else y)) (evK X tm ((s,cb)::ks) (bif cb then x else y)):=by
        intro x
        refine evK_sound hX hS ?_ _
        intro k hk'
        rcases List.mem_cons.1 hk' with rfl | hk'
        · have:c=.tmp s:=by cases c<;>simp [tmpOf] at hs';rw [hs']
          subst this
          simp only [Act.eval,Array.getD_eq_getD_getElem?] at hcv
          cases hg:a.tmps[s]? with
          | none=>rw [hg] at hcv;simp [undef] at hcv
          | some u=>rw [hg] at hcv;simp at hcv;rw [hcv]
        · exact hk k hk'
      have hpv:(execOp a.eval ⟨dst,.pick c x y,type,pos,after,guard⟩).run X.P w=.ok (.value (a.eval (bif cb then x else y))) w:=by
        simp only [execOp,hcv,asBool,Sem.run_bind,Sem.run_pure,Result.andThen_ok]
        cases cb<;>rfl
      have hsel:RD X.C (cxOf g hs w) (a.eval (bif cb then x else y)) (bif cb then evK X tm ((s,true)::ks) x else evK X tm ((s,false)::ks) y):=by
        have:=hks x
        cases cb<;>exact this
      split at hr
      · rename_i x' y' hx' hy'
        subst hr
        refine .pure hX hS hpv ?_ rfl
        rw [hx',hy'] at hsel
        cases cb<;>exact hsel
      · subst hr
        exact .pure hX hS hpv hsel rfl
    · rename_i cb hc _
      have hcv:=he c
      rw [hc] at hcv
      have hcv:=lit_eq hcv
      subst hr
      refine .pure hX hS (v:=a.eval (bif cb then x else y)) ?_ ?_ rfl
      · simp only [execOp,hcv,asBool,Sem.run_bind,Sem.run_pure,Result.andThen_ok]
        cases cb<;>rfl
      · cases cb
        · exact he y
        · exact he x
    · subst hr;exact (hno hok).elim
  case box t x =>
    simp only at hr
    split at hr
    · rename_i cs hc
      subst hr
      obtain ⟨h1,h2⟩:=storeCellsD_sound (he x) hc
      exact .inl ⟨_,_,by simp [execOp,Instr.box,newVar,newRow],boxD_sound hX hS _ hok t _ cs h1⟩
    · subst hr;exact (hno hok).elim
  case alloc t =>
    simp only at hr
    split at hr
    · rename_i z hz
      cases hgc:goodCells (cellsD z) with
      | false=>simp only [hgc,cond_false] at hr;subst hr;exact (hno hok).elim
      | true =>
      simp only [hgc,cond_true] at hr
      subst hr
      unfold zeroD at hz
      split at hz
      · rename_i v hv
        simp only [Option.some.injEq] at hz
        subst hz
        exact .inl ⟨_,_,by simp [execOp,Instr.alloc,run_zero w hv,newVar,newRow],boxD_sound hX hS _ hok t _ _ (zeroCells_sound hgc)⟩
      · simp at hz
    · subst hr;exact (hno hok).elim
  case build t ps =>
    obtain ⟨v,h1,h2,h3⟩:=buildD_sound X.P w t _ (ps.map fun (i,x)=>(i,a.eval x)) (by simp) (pairs_get _ _ he ps) r hr hok
    exact .pure hX hS (run_v h1) h2 h3
  case buildSlice t n ps =>
    obtain ⟨v,w',h1,h2⟩:=buildSliceD_sound hX hS t n _ (ps.map fun (i,x)=>(i,a.eval x)) (by simp) (pairs_get _ _ he ps) r hr hok
    exact .inl ⟨v,w',run_v h1,h2⟩
  case load t x =>
    simp only at hr
    split at hr
    · rename_i cs off hc
      have hat:=cellsAt_sound hX hS (he x) hc
      cases hl:loadD X.P t cs off with
      | none=>rw [hl] at hr;subst hr;exact (hno hok).elim
      | some d =>
        rw [hl] at hr
        subst hr
        obtain ⟨u,h1,h2⟩:=loadD_sound hat hl
        exact .pure hX hS (run_v h1) h2 rfl
    · subst hr;exact (hno hok).elim
  case store t x y =>
    obtain ⟨w',h1,h2⟩:=storeD_sound hX hS t _ _ _ _ (he x) (he y) r hr hok
    exact .inr (.inl ⟨w',by simp [execOp,h1],h2⟩)
  case makeMap t rsv =>
    cases rsv with
    | none =>
      obtain ⟨v,w',h1,h2⟩:=makeMapD_sound hX hS _ t r hr hok
      exact .inl ⟨v,w',run_v h1,h2⟩
    | some y=>simp only at hr;subst hr;exact (hno hok).elim
  case makeSlice t x y =>
    obtain ⟨v,w',h1,h2⟩:=makeSliceD_sound hX hS _ t _ _ _ _ (he x) (he y) r hr hok
    exact .inl ⟨v,w',run_v h1,h2⟩
  case lookup t x y ok =>
    obtain ⟨v,h1,h2,h3⟩:=lookupD_sound hX hS t _ _ _ _ ok (he x) (he y) r hr hok
    exact .pure hX hS (run_v h1) h2 h3
  case mapUpdate t m y z =>
    obtain ⟨w',h1,h2⟩:=mapUpdateD_sound hX hS t _ _ _ _ _ _ (he m) (he y) (he z) r hr hok
    exact .inr (.inl ⟨w',by simp [execOp,h1],h2⟩)
  case insert t m y z =>
    obtain ⟨w',h1,h2⟩:=mapUpdateD_sound hX hS t _ _ _ _ _ _ (he m) (he y) (he z) r hr hok
    exact .inr (.inl ⟨w',by simp [execOp,h1],h2⟩)
  case nilCheck x =>
    have hx:=he x
    simp only at hr
    split at hr
    all_goals first
      | (subst hr;exact (hno hok).elim)
      | (rename_i hc
         rw [hc] at hx
         subst hr
         refine .pure hX hS ?_ hx rfl
         simp only [execOp]
         generalize a.eval x=vx at hx ⊢
         cases hx<;>rfl)
      | (rename_i hc
         rw [hc] at hx
         subst hr
         simp only [Res.if] at hok
         subst hok
         generalize hvx:a.eval x=vx at hx
         cases hx with
         | mrefS _ _ _ hx =>
         refine .pure hX hS ?_ hx rfl
         simp only [execOp,hvx]
         rfl)
  case binOp op t x y ty =>
    obtain ⟨v,h1,h2,h3⟩:=binN_sound hX w op t _ _ _ _ x y (he x) (he y) r hr hok
    exact .pure hX hS (run_v h1) h2 h3
  case unOp op t x =>
    obtain ⟨v,h1,h2,h3⟩:=unD_sound w op _ _ (he x) r hr hok
    exact .pure hX hS (run_v h1) h2 h3
  case convert s t x =>
    obtain ⟨v,w',h1,h2⟩:=convD_sound hX hS s t _ _ (he x) r hr hok
    exact .inl ⟨v,w',run_v h1,h2⟩
  case makeFunc fn first cap =>
    cases fn with
    | func f =>
      simp only at hr
      cases hlt:Nat.blt f mvB with
      | false=>simp only [hlt,cond_false] at hr;subst hr;exact (hno hok).elim
      | true =>
      simp only [hlt,cond_true] at hr
      cases hz:Nat.beq first.size 0 with
      | false =>
        simp only [hz,cond_false] at hr
        cases hz2:Nat.beq cap.size 0 with
        | false=>simp only [hz2,cond_false] at hr;subst hr;exact (hno hok).elim
        | true =>
          simp only [hz2,cond_true] at hr
          subst hr
          have hz2:cap=#[]:=Array.eq_empty_of_size_eq_zero (Nat.eq_of_beq_eq_true hz2)
          subst hz2
          have hn:Nat.blt (f+mvB) mvB=false:=by rw [Bool.eq_false_iff,ne_eq,Nat.blt_eq];omega
          have h:=RD.fn (C:=X.C) (cx:=cxOf g hs w) (f+mvB) f (first.map a.eval) #[] (first.map a.eval) (first.toList.map (evK X tm ks)) (by simp) (args_get _ _ he first) (by simp only [mkFn,hn,cond_false,Nat.add_mod_right];rw [Nat.mod_eq_of_lt (by rwa [Nat.blt_eq] at hlt)])
          exact .pure hX hS (v:=.func (.func f) (first.map a.eval) #[]) (by simp [execOp,Instr.makeFunc]) h rfl
      | true =>
        simp only [hz,cond_true] at hr
        subst hr
        have hz:first=#[]:=Array.eq_empty_of_size_eq_zero (Nat.eq_of_beq_eq_true hz)
        subst hz
        have h:=RD.fn (C:=X.C) (cx:=cxOf g hs w) f f #[] (cap.map a.eval) (cap.map a.eval) (cap.toList.map (evK X tm ks)) (by simp) (args_get _ _ he cap) (by simp only [mkFn,hlt,cond_true])
        exact .pure hX hS (v:=.func (.func f) #[] (cap.map a.eval)) (by simp [execOp,Instr.makeFunc]) h rfl
    | _=>simp only at hr;subst hr;exact (hno hok).elim
  case slice t x l h m =>
    obtain ⟨v,h1,h2⟩:=sliceD_sound hX hS t _ _ _ _ _ (l.map a.eval) (h.map a.eval) (m.map a.eval) (he x) (opt_get _ _ he l) (by simp) (opt_get _ _ he h) (by simp) (opt_get _ _ he m) (by simp) r hr hok
    exact .inl ⟨v,w,run_v h1,h2⟩
  case fieldAddr t x f =>
    obtain ⟨v,h1,h2,h3⟩:=fieldAddrD_sound w t _ _ f (he x) r hr hok
    exact .pure hX hS (run_v h1) h2 h3
  case field t x f =>
    obtain ⟨v,h1,h2,h3⟩:=fieldD_sound w t _ _ f (he x) r hr hok
    exact .pure hX hS (run_v h1) h2 h3
  case indexAddr t x i =>
    obtain ⟨v,h1,h2,h3⟩:=indexAddrD_sound t _ _ _ _ (he x) (he i) r hr hok
    exact .pure hX hS (run_v h1) h2 h3
  case index t x i =>
    obtain ⟨v,h1,h2,h3⟩:=indexD_sound X.P w t _ _ _ _ (he x) (he i) r hr hok
    exact .pure hX hS (run_v h1) h2 h3
  case extract x i =>
    have hx:=he x
    simp only at hr
    split at hr
    · rename_i ds hc
      rw [hc] at hx
      cases hd:ds[i]? with
      | none=>rw [hd] at hr;subst hr;exact (hno hok).elim
      | some d =>
        rw [hd] at hr
        subst hr
        have hev:∃v,(Instr.extract (a.eval x) i).run X.P w=.ok v w∧RD X.C (cxOf g hs w) v d:=by
          generalize a.eval x=vx at hx ⊢
          cases hx with
          | tup vs _ hs' h =>
            have hlt:i < vs.size:=by
              rcases Nat.lt_or_ge i ds.length with h | h
              · omega
              · simp [List.getElem?_eq_none h] at hd
            exact ⟨vs[i],by simp [Instr.extract,hlt],h i _ d (by simp [hlt]) hd⟩
        obtain ⟨v,h1,h2⟩:=hev
        exact .pure hX hS (run_v h1) h2 rfl
    · subst hr;exact (hno hok).elim
  case call c =>
    obtain ⟨callee,args,argTypes⟩:=c
    cases callee with
    | value f =>
      simp only at hr
      split at hr
      · rename_i fi cs hc
        have hf:=he f
        rw [hc] at hf
        have hfv:∃vs,a.eval f=mkFn fi vs∧vs.size=cs.length∧∀(i:Nat) v c,vs[i]?=some v→cs[i]?=some c→RD X.C (cxOf g hs w) v c:=by
          generalize a.eval f=vf at hf
          cases hf with
          | fn _ f' va vb vs _ hs' h hm=>exact ⟨vs,hm,hs',h⟩
        obtain ⟨vs,hfv,hsz,hvs⟩:=hfv
        have ha:=args_get _ _ he args
        have hcall:=callD_sound hX hS hR (fnId fi) _ (bif Nat.blt fi mvB then args.map a.eval++vs else vs++args.map a.eval) (by unfold capA;cases Nat.blt fi mvB<;>simp [hsz]) (fun i v c hv hc=>by
          unfold capA at hc
          cases hb:Nat.blt fi mvB with
          | true =>
            simp only [hb,cond_true] at hv hc
            rw [Array.getElem?_append] at hv
            rw [List.getElem?_append] at hc
            simp only [Array.size_map,List.length_map,Array.length_toList] at hv hc
            split at hv
            · rename_i hlt
              rw [if_pos hlt] at hc
              exact ha i v c hv hc
            · rename_i hlt
              rw [if_neg hlt] at hc
              exact hvs _ v c hv hc
          | false =>
            simp only [hb,cond_false] at hv hc
            rw [Array.getElem?_append] at hv
            rw [List.getElem?_append] at hc
            rw [hsz] at hv
            split at hv
            · rename_i hlt
              rw [if_pos hlt] at hc
              exact hvs _ v c hv hc
            · rename_i hlt
              rw [if_neg hlt] at hc
              exact ha _ v c hv hc) dst r hr hok
        have hex:(execOp a.eval ⟨dst,.call ⟨.value f,args,argTypes⟩,type,pos,after,guard⟩).run X.P w=(callFunc (fnId fi) (bif Nat.blt fi mvB then args.map a.eval++vs else vs++args.map a.eval)).run X.P w:=by
          unfold fnId
          unfold mkFn at hfv
          cases hb:Nat.blt fi mvB with
          | true =>
            simp only [hb,cond_true] at hfv ⊢
            simp [execOp,resolve,hfv,Deferred.ofValue,invoke]
          | false =>
            simp only [hb,cond_false] at hfv ⊢
            generalize fi % mvB=gi at hfv ⊢
            simp [execOp,resolve,hfv,Deferred.ofValue,invoke]
        rw [hex]
        rcases hcall with ⟨h1,h2⟩ | ⟨v,w',h1,h2⟩
        · exact .inr (.inr ⟨fnId fi,_,h1,h2⟩)
        · exact .inl ⟨v,w',h1,h2⟩
      · subst hr;exact (hno hok).elim
    | invoke rc m=>simp only at hr;subst hr;exact (hno hok).elim
    | builtin b =>
      have hargs:=args_get _ _ he args
      have hex:∃cs,(execOp a.eval ⟨dst,.call ⟨.builtin b,args,argTypes⟩,type,pos,after,guard⟩).run X.P w=(builtin b argTypes type cs (args.map a.eval)).run X.P w :=
        ⟨_,by simp [execOp,resolve,invoke];rfl⟩
      obtain ⟨consts,hex⟩:=hex
      rw [hex]
      cases b with
      | len =>
        simp only at hr
        split at hr
        · rename_i x t hx ht
          obtain rfl:args=#[x]:=by rw [←args.toArray_toList,hx]
          obtain rfl:argTypes=#[t]:=by rw [←argTypes.toArray_toList,ht]
          obtain ⟨v,h1,h2,h3⟩:=lenD_sound hX t _ _ type (he x) r hr hok hS
          exact .pure hX hS (run_v (s:=Builtin.len_ #[t] type _) (by simpa using h1)) h2 h3
        · subst hr;exact (hno hok).elim
      | cap =>
        simp only at hr
        split at hr
        · rename_i x t hx ht
          obtain rfl:args=#[x]:=by rw [←args.toArray_toList,hx]
          obtain rfl:argTypes=#[t]:=by rw [←argTypes.toArray_toList,ht]
          obtain ⟨v,h1,h2,h3⟩:=capD_sound t _ _ type (he x) r hr hok
          exact .pure hX hS (run_v (s:=Builtin.cap_ #[t] type _) (by simpa using h1)) h2 h3
        · subst hr;exact (hno hok).elim
      | append =>
        simp only at hr
        split at hr
        · rename_i x y t t2 hx ht
          obtain rfl:args=#[x,y]:=by rw [←args.toArray_toList,hx]
          obtain rfl:argTypes=#[t,t2]:=by rw [←argTypes.toArray_toList,ht]
          obtain ⟨v,w',h1,h2⟩:=appendD_sound hX hS _ t t2 type _ _ _ _ (he x) (he y) r hr hok
          exact .inl ⟨v,w',run_v (s:=Builtin.append_ #[t,t2] type _) (by simpa using h1),h2⟩
        · subst hr;exact (hno hok).elim
      | min =>
        simp only at hr
        split at hr
        · rename_i x l hx
          obtain rfl:args=(x::l).toArray:=by rw [←args.toArray_toList,hx]
          cases hd:minD false (evK X tm ks x) (l.map (evK X tm ks)) with
          | none=>rw [hd] at hr;subst hr;exact (hno hok).elim
          | some d =>
            rw [hd] at hr
            subst hr
            obtain ⟨v,h1,h2⟩:=minD_sound X.P w false _ (l.map a.eval) _ _ d (he x) (by simp) (fun i v c hv hc=>hargs (i+1) v c (by simpa using hv) (by simpa using hc)) hd
            exact .pure hX hS (run_v (s:=Builtin.min_ argTypes type _) (by simpa [Builtin.min_] using h1)) h2 rfl
        · subst hr;exact (hno hok).elim
      | max =>
        simp only at hr
        split at hr
        · rename_i x l hx
          obtain rfl:args=(x::l).toArray:=by rw [←args.toArray_toList,hx]
          cases hd:minD true (evK X tm ks x) (l.map (evK X tm ks)) with
          | none=>rw [hd] at hr;subst hr;exact (hno hok).elim
          | some d =>
            rw [hd] at hr
            subst hr
            obtain ⟨v,h1,h2⟩:=minD_sound X.P w true _ (l.map a.eval) _ _ d (he x) (by simp) (fun i v c hv hc=>hargs (i+1) v c (by simpa using hv) (by simpa using hc)) hd
            exact .pure hX hS (run_v (s:=Builtin.max_ argTypes type _) (by simpa [Builtin.max_] using h1)) h2 rfl
        · subst hr;exact (hno hok).elim
      | _=>simp only at hr;subst hr;exact (hno hok).elim
  all_goals (simp only at hr;subst hr;exact (hno hok).elim)
end
end Go.Eng
