/-
 THE ENGINE, PART Q: A REGION's OPERATIONS, one at a time; what an operation hangs on.
-/
import Derived.Test.YtcgbgcconigdbaaGreatDoorEngMp
import Derived.Test.YtcgbgcconigdbaaGreatDoorEngO
import Derived.Orders
namespace Go.Eng
open Go.RowKit
variable {α:Type}
section
variable {X:Ctx α} (hX:XOk X) {g:Gh} {tm:List (D α)} {hs:Obs α} {a:Act} {w:World} (hS:Sim X g tm hs a w)
include hX hS in
theorem evK_sound {ks:List (Nat×Bool)} (hk:holds a.tmps ks) (x:Operand):RD X.C (cxOf g hs w) (a.eval x) (evK X tm ks x):=by
 cases x with
 | tmp t=>exact RG.strip hk (hS.tm t)
 | const v=>exact ofV_sound X.C _ v
 | global i =>
  simp only [evK]
  split
  ·rename_i cs h
   have h1:=(glob_out hX hS [] i cs h).1
   refine RD.grow hX.pay (cx:=cx0 w (avBut g hs w [])) (cx':=cxOf g hs w) ⟨fun b ob _ h=>h,fun b ob _ h h'=>h ⟨h',fun o ob ho=>by simp at ho⟩,fun _ _ _ h=>by simp [cx0] at h,fun _ _ _ _ h=>by simp [cx0] at h,fun b cells T fz h=>⟨cells,T,fz,h,rfl⟩⟩ h1
  ·exact .bad _
 | func f =>
  simp only [evK]
  cases hb:Nat.blt f mvB with
  | false=>exact .bad _
  | true =>
   exact .fn f f #[] #[] #[] [] rfl (fun i v c h=>by simp at h) (by simp only [mkFn,hb,cond_true])
include hX hS in
theorem mapUpdateD_sound (t:TypeId) (x k v:D α) (vx vk vv:Value) (hx:RD X.C (cxOf g hs w) vx x) (hk:RD X.C (cxOf g hs w) vk k) (hv:RD X.C (cxOf g hs w) vv v) (r:Res α) (hr:mapUpdateD X tm hs t x k v=r) (hok:r.ok=true) :
  ∃w',(Instr.mapUpdate t vx vk vv).run X.P w=.ok () w'∧OpOut X g tm hs a r undef w':=by
 unfold mapUpdateD at hr
 split at hr
 ·rename_i kt et o hu
  split at hr
  ·rename_i p hl
   split at hr
   ·rename_i v' ns hlend
    split at hr
    ·rename_i q s hq hs'
     subst hr
     simp only [Bool.and_eq_true] at hok
     obtain ⟨hko,hno⟩:=hok
     cases hx with
     | mp _ b ho =>
     have hrho:g.rho o=some b:=by simpa [cxOf,hl] using ho
     cases hns:isNil ns with
     | true =>
      obtain rfl:=isNil_eq hns
      have hv':RD X.C (cxOf g hs w) vv v':=RD.kill_cx0 hX.pay (CxLe.refl _ _) ((lendAll_sound hX hS _ (fun _ h=>h) _ _ _ hlend (by simp)).2 0 vv v v' rfl rfl hv)
      obtain ⟨w',h1,h2⟩:=mapPut_sound hX hS t o b k v' vk vv hu hl hrho hk hv' hq hs' hko
      exact ⟨w',h1,g.rho,h2,.lit _⟩
     | false =>
      rw [hns] at hno
      simp only [cond_false,Bool.and_eq_true,List.all_eq_true,Bool.not_eq_true'] at hno
      obtain ⟨hcl,hno⟩:=hno
      obtain ⟨hS1,hle⟩:=sim_freeze hX hS ns
      have hl1:look (freeze hs ns) o=some (.map false p):=by
       rw [look_freeze,if_neg (fun hm=>by have:=hno o hm;simp at this)]
       exact hl
      have hv':RD X.C (cxOf g (freeze hs ns) w) vv v':=RD.closedTo hX.pay (frozen_of_out hS) hcl ((lendAll_sound hX hS (avBut g hs w ns) avBut_av _ _ _ hlend avBut_ns).2 0 vv v v' rfl rfl hv)
      obtain ⟨w',h1,h2⟩:=mapPut_sound hX hS1 t o b k v' vk vv hu hl1 hrho (RD.grow hX.pay hle hk) hv' hq hs' hko
      refine ⟨w',h1,g.rho,?_,.lit _⟩
      simp only [hns,cond_false]
      exact h2
    ·subst hr;simp [Res.no] at hok
   ·subst hr;simp [Res.no] at hok
  ·subst hr;simp [Res.no] at hok
 ·subst hr;simp [Res.no] at hok
def OpPost (X:Ctx α) (g:Gh) (tm:List (D α)) (hs:Obs α) (a:Act) (w:World) (r:Res α) (n:Result Next):Prop :=
 (∃v w',n=.ok (.value v) w'∧OpOut X g tm hs a r v w')∨(∃w',n=.ok .skip w'∧OpOut X g tm hs a r undef w') ∨
 ∃f vs,n=.ok (.enter f vs) w∧Calls X.P f vs w fun e w'=>∃v,e=.returned v∧OpOut X g tm hs a r v w'
theorem OpPost.wp {r:Res α} {o:Oper} (h:OpPost X g tm hs a w r ((execOp a.eval o).run X.P w)) {K:Act→World→Prop} {Q:Exit→Act→World→Prop}
  (hK:∀v w',OpOut X g tm hs a r v w'→K (a.put o.dst v) w'):o.wp X.P a w K Q:=by
 unfold Oper.wp
 rcases h with ⟨v,w',h1,h2⟩ | ⟨w',h1,h2⟩ | ⟨f,vs,h1,h2⟩
 ·rw [h1];exact hK v w' h2
 ·rw [h1];exact hK undef w' h2
 ·rw [h1]
  exact h2.mono fun e w' ⟨v,he,ho⟩=>by subst he;exact hK v w' ho
include hX hS in
theorem OpPost.pure {r:Res α} {v:Value} {n:Result Next} (hn:n=.ok (.value v) w) (hd:RD X.C (cxOf g hs w) v r.d) (hch:r.ch=none):OpPost X g tm hs a w r n :=
 .inl ⟨v,w,hn,OpOut.pure hX hS hch hd⟩
theorem run_v {s:Sem Value} {v:Value} {w':World} {P:Program} (h:s.run P w=.ok v w'):(do pure (Next.value (←s)):Sem Next).run P w=.ok (.value v) w':=by
 simp [h]
theorem lit_eq {C:Pay α} {cx:Cx α} {v:Value} {b:Bool} (h:RD C cx v (.bool b)):v=.bool b:=by cases h;rfl
theorem pairs_get (e:Operand→D α) (ρ:Operand→Value) {C:Pay α} {cx:Cx α} (h:∀x,RD C cx (ρ x) (e x)) (ps:Array (Nat×Operand)) (i:Nat) (p:Nat×D α) (q:Nat×Value)
  (hp:(ps.toList.map fun x=>(x.1,e x.2))[i]?=some p) (hq:(ps.map fun (i,x)=>(i,ρ x))[i]?=some q):q.1=p.1∧RD C cx q.2 p.2:=by
 simp only [List.getElem?_map,Array.getElem?_toList,Array.getElem?_map,Option.map_eq_some_iff] at hp hq
 obtain ⟨x,hx,rfl⟩:=hp
 obtain ⟨y,hy,rfl⟩:=hq
 rw [hx] at hy
 simp only [Option.some.injEq] at hy
 subst hy
 exact ⟨rfl,h _⟩
theorem args_get (e:Operand→D α) (ρ:Operand→Value) {C:Pay α} {cx:Cx α} (h:∀x,RD C cx (ρ x) (e x)) (xs:Array Operand) (i:Nat) (v:Value) (c:D α)
  (hv:(xs.map ρ)[i]?=some v) (hc:(xs.toList.map e)[i]?=some c):RD C cx v c:=by
 simp only [List.getElem?_map,Array.getElem?_toList,Array.getElem?_map,Option.map_eq_some_iff] at hv hc
 obtain ⟨x,hx,rfl⟩:=hv
 obtain ⟨y,hy,rfl⟩:=hc
 rw [hx] at hy
 simp only [Option.some.injEq] at hy
 subst hy
 exact h _
theorem opt_get (e:Operand→D α) (ρ:Operand→Value) {C:Pay α} {cx:Cx α} (h:∀x,RD C cx (ρ x) (e x)) (l:Option Operand):∀d v,l.map e=some d→l.map ρ=some v→RD C cx v d:=by
 intro d v hd hv
 cases l with
 | none=>simp at hd
 | some x=>simp only [Option.map_some,Option.some.injEq] at hd hv;subst hd hv;exact h x
include hX hS in
theorem op_sound (hR:ROk X) {ks:List (Nat×Bool)} (hk:holds a.tmps ks) (o:Oper) (hok:(evalOp X tm hs ks o).ok=true) :
    OpPost X g tm hs a w (evalOp X tm hs ks o) ((execOp a.eval o).run X.P w):=by
  have hno:(Res.no:Res α).ok=true→False:=by simp [Res.no]
  have he:∀x,RD X.C (cxOf g hs w) (a.eval x) (evK X tm ks x):=fun x=>evK_sound hX hS hk x
  obtain ⟨dst,op,type,pos,after,guard⟩:=o
  generalize hr:evalOp X tm hs ks ⟨dst,op,type,pos,after,guard⟩=r at hok ⊢
  unfold evalOp at hr
  cases op
  case move x=>subst hr;exact .pure hX hS (by simp [execOp]) (he x) rfl
  case assign x=>subst hr;exact .pure hX hS (by simp [execOp]) (he x) rfl
  case pick c x y =>
    simp only at hr
    split at hr
    · rename_i cb s hc hs'
      have hcv:=he c
      rw [hc] at hcv
      have hcv:=lit_eq hcv
      have hks:∀x,RD X.C (cxOf g hs w) (a.eval (bif cb then x else y)) (evK X tm ((s,cb)::ks) (bif cb then x else y)):=by
        intro x
        refine evK_sound hX hS ?_ _
        intro k hk'
        rcases List.mem_cons.1 hk' with rfl | hk'
        · have:c=.tmp s:=by cases c<;>simp [tmpOf] at hs';rw [hs']
          subst this
          simp only [Act.eval,Array.getD_eq_getD_getElem?] at hcv
          cases hg:a.tmps[s]? with
          | none=>rw [hg] at hcv;simp [undef] at hcv
          | some u=>rw [hg] at hcv;simp at hcv;rw [hcv]
        · exact hk k hk'
      have hpv:(execOp a.eval ⟨dst,.pick c x y,type,pos,after,guard⟩).run X.P w=.ok (.value (a.eval (bif cb then x else y))) w:=by
        simp only [execOp,hcv,asBool,Sem.run_bind,Sem.run_pure,Result.andThen_ok]
        cases cb<;>rfl
      have hsel:RD X.C (cxOf g hs w) (a.eval (bif cb then x else y)) (bif cb then evK X tm ((s,true)::ks) x else evK X tm ((s,false)::ks) y):=by
        have:=hks x
        cases cb<;>exact this
      split at hr
      · rename_i x' y' hx' hy'
        subst hr
        refine .pure hX hS hpv ?_ rfl
        rw [hx',hy'] at hsel
        cases cb<;>exact hsel
      · subst hr
        exact .pure hX hS hpv hsel rfl
    · rename_i cb hc _
      have hcv:=he c
      rw [hc] at hcv
      have hcv:=lit_eq hcv
      subst hr
      refine .pure hX hS (v:=a.eval (bif cb then x else y)) ?_ ?_ rfl
      · simp only [execOp,hcv,asBool,Sem.run_bind,Sem.run_pure,Result.andThen_ok]
        cases cb<;>rfl
      · cases cb
        · exact he y
        · exact he x
    · subst hr;exact (hno hok).elim
  case box t x =>
    simp only at hr
    split at hr
    · rename_i cs hc
      subst hr
      obtain ⟨h1,h2⟩:=storeCellsD_sound (he x) hc
      exact .inl ⟨_,_,by simp [execOp,Instr.box,newVar,newRow],boxD_sound hX hS _ hok t _ cs h1⟩
    · subst hr;exact (hno hok).elim
  case alloc t =>
    simp only at hr
    split at hr
    · rename_i z hz
      cases hgc:goodCells (cellsD z) with
      | false=>simp only [hgc,cond_false] at hr;subst hr;exact (hno hok).elim
      | true =>
      simp only [hgc,cond_true] at hr
      subst hr
      unfold zeroD at hz
      split at hz
      · rename_i v hv
        simp only [Option.some.injEq] at hz
        subst hz
        exact .inl ⟨_,_,by simp [execOp,Instr.alloc,run_zero w hv,newVar,newRow],boxD_sound hX hS _ hok t _ _ (zeroCells_sound hgc)⟩
      · simp at hz
    · subst hr;exact (hno hok).elim
  case build t ps =>
    obtain ⟨v,h1,h2,h3⟩:=buildD_sound X.P w t _ (ps.map fun (i,x)=>(i,a.eval x)) (by simp) (pairs_get _ _ he ps) r hr hok
    exact .pure hX hS (run_v h1) h2 h3
  case buildSlice t n ps =>
    obtain ⟨v,w',h1,h2⟩:=buildSliceD_sound hX hS t n _ (ps.map fun (i,x)=>(i,a.eval x)) (by simp) (pairs_get _ _ he ps) r hr hok
    exact .inl ⟨v,w',run_v h1,h2⟩
  case load t x =>
    simp only at hr
    split at hr
    · rename_i cs off hc
      have hat:=cellsAt_sound hX hS (he x) hc
      cases hl:loadD X.P t cs off with
      | none=>rw [hl] at hr;subst hr;exact (hno hok).elim
      | some d =>
        rw [hl] at hr
        subst hr
        obtain ⟨u,h1,h2⟩:=loadD_sound hat hl
        exact .pure hX hS (run_v h1) h2 rfl
    · subst hr;exact (hno hok).elim
  case store t x y =>
    obtain ⟨w',h1,h2⟩:=storeD_sound hX hS t _ _ _ _ (he x) (he y) r hr hok
    exact .inr (.inl ⟨w',by simp [execOp,h1],h2⟩)
  case makeMap t rsv =>
    cases rsv with
    | none =>
      obtain ⟨v,w',h1,h2⟩:=makeMapD_sound hX hS _ t r hr hok
      exact .inl ⟨v,w',run_v h1,h2⟩
    | some y=>simp only at hr;subst hr;exact (hno hok).elim
  case makeSlice t x y =>
    obtain ⟨v,w',h1,h2⟩:=makeSliceD_sound hX hS _ t _ _ _ _ (he x) (he y) r hr hok
    exact .inl ⟨v,w',run_v h1,h2⟩
  case lookup t x y ok =>
    obtain ⟨v,h1,h2,h3⟩:=lookupD_sound hX hS t _ _ _ _ ok (he x) (he y) r hr hok
    exact .pure hX hS (run_v h1) h2 h3
  case mapUpdate t m y z =>
    obtain ⟨w',h1,h2⟩:=mapUpdateD_sound hX hS t _ _ _ _ _ _ (he m) (he y) (he z) r hr hok
    exact .inr (.inl ⟨w',by simp [execOp,h1],h2⟩)
  case insert t m y z =>
    obtain ⟨w',h1,h2⟩:=mapUpdateD_sound hX hS t _ _ _ _ _ _ (he m) (he y) (he z) r hr hok
    exact .inr (.inl ⟨w',by simp [execOp,h1],h2⟩)
  case nilCheck x =>
    have hx:=he x
    simp only at hr
    split at hr
    all_goals first
      | (subst hr;exact (hno hok).elim)
      | (rename_i hc
         rw [hc] at hx
         subst hr
         refine .pure hX hS ?_ hx rfl
         simp only [execOp]
         generalize a.eval x=vx at hx ⊢
         cases hx<;>rfl)
      | (rename_i hc
         rw [hc] at hx
         subst hr
         simp only [Res.if] at hok
         subst hok
         generalize hvx:a.eval x=vx at hx
         cases hx with
         | mrefS _ _ _ hx =>
         refine .pure hX hS ?_ hx rfl
         simp only [execOp,hvx]
         rfl)
  case binOp op t x y ty =>
    obtain ⟨v,h1,h2,h3⟩:=binN_sound hX w op t _ _ _ _ x y (he x) (he y) r hr hok
    exact .pure hX hS (run_v h1) h2 h3
  case unOp op t x =>
    obtain ⟨v,h1,h2,h3⟩:=unD_sound w op _ _ (he x) r hr hok
    exact .pure hX hS (run_v h1) h2 h3
  case convert s t x =>
    obtain ⟨v,w',h1,h2⟩:=convD_sound hX hS s t _ _ (he x) r hr hok
    exact .inl ⟨v,w',run_v h1,h2⟩
  case makeFunc fn first cap =>
    cases fn with
    | func f =>
      simp only at hr
      cases hlt:Nat.blt f mvB with
      | false=>simp only [hlt,cond_false] at hr;subst hr;exact (hno hok).elim
      | true =>
      simp only [hlt,cond_true] at hr
      cases hz:Nat.beq first.size 0 with
      | false =>
        simp only [hz,cond_false] at hr
        cases hz2:Nat.beq cap.size 0 with
        | false=>simp only [hz2,cond_false] at hr;subst hr;exact (hno hok).elim
        | true =>
          simp only [hz2,cond_true] at hr
          subst hr
          have hz2:cap=#[]:=Array.eq_empty_of_size_eq_zero (Nat.eq_of_beq_eq_true hz2)
          subst hz2
          have hn:Nat.blt (f+mvB) mvB=false:=by rw [Bool.eq_false_iff,ne_eq,Nat.blt_eq];omega
          have h:=RD.fn (C:=X.C) (cx:=cxOf g hs w) (f+mvB) f (first.map a.eval) #[] (first.map a.eval) (first.toList.map (evK X tm ks)) (by simp) (args_get _ _ he first) (by simp only [mkFn,hn,cond_false,Nat.add_mod_right];rw [Nat.mod_eq_of_lt (by rwa [Nat.blt_eq] at hlt)])
          exact .pure hX hS (v:=.func (.func f) (first.map a.eval) #[]) (by simp [execOp,Instr.makeFunc]) h rfl
      | true =>
        simp only [hz,cond_true] at hr
        subst hr
        have hz:first=#[]:=Array.eq_empty_of_size_eq_zero (Nat.eq_of_beq_eq_true hz)
        subst hz
        have h:=RD.fn (C:=X.C) (cx:=cxOf g hs w) f f #[] (cap.map a.eval) (cap.map a.eval) (cap.toList.map (evK X tm ks)) (by simp) (args_get _ _ he cap) (by simp only [mkFn,hlt,cond_true])
        exact .pure hX hS (v:=.func (.func f) #[] (cap.map a.eval)) (by simp [execOp,Instr.makeFunc]) h rfl
    | _=>simp only at hr;subst hr;exact (hno hok).elim
  case slice t x l h m =>
    obtain ⟨v,h1,h2⟩:=sliceD_sound hX hS t _ _ _ _ _ (l.map a.eval) (h.map a.eval) (m.map a.eval) (he x) (opt_get _ _ he l) (by simp) (opt_get _ _ he h) (by simp) (opt_get _ _ he m) (by simp) r hr hok
    exact .inl ⟨v,w,run_v h1,h2⟩
  case fieldAddr t x f =>
    obtain ⟨v,h1,h2,h3⟩:=fieldAddrD_sound w t _ _ f (he x) r hr hok
    exact .pure hX hS (run_v h1) h2 h3
  case field t x f =>
    obtain ⟨v,h1,h2,h3⟩:=fieldD_sound w t _ _ f (he x) r hr hok
    exact .pure hX hS (run_v h1) h2 h3
  case indexAddr t x i =>
    obtain ⟨v,h1,h2,h3⟩:=indexAddrD_sound t _ _ _ _ (he x) (he i) r hr hok
    exact .pure hX hS (run_v h1) h2 h3
  case index t x i =>
    obtain ⟨v,h1,h2,h3⟩:=indexD_sound X.P w t _ _ _ _ (he x) (he i) r hr hok
    exact .pure hX hS (run_v h1) h2 h3
  case extract x i =>
    have hx:=he x
    simp only at hr
    split at hr
    · rename_i ds hc
      rw [hc] at hx
      cases hd:ds[i]? with
      | none=>rw [hd] at hr;subst hr;exact (hno hok).elim
      | some d =>
        rw [hd] at hr
        subst hr
        have hev:∃v,(Instr.extract (a.eval x) i).run X.P w=.ok v w∧RD X.C (cxOf g hs w) v d:=by
          generalize a.eval x=vx at hx ⊢
          cases hx with
          | tup vs _ hs' h =>
            have hlt:i < vs.size:=by
              rcases Nat.lt_or_ge i ds.length with h | h
              · omega
              · simp [List.getElem?_eq_none h] at hd
            exact ⟨vs[i],by simp [Instr.extract,hlt],h i _ d (by simp [hlt]) hd⟩
        obtain ⟨v,h1,h2⟩:=hev
        exact .pure hX hS (run_v h1) h2 rfl
    · subst hr;exact (hno hok).elim
  case call c =>
    obtain ⟨callee,args,argTypes⟩:=c
    cases callee with
    | value f =>
      simp only at hr
      split at hr
      · rename_i fi cs hc
        have hf:=he f
        rw [hc] at hf
        have hfv:∃vs,a.eval f=mkFn fi vs∧vs.size=cs.length∧∀(i:Nat) v c,vs[i]?=some v→cs[i]?=some c→RD X.C (cxOf g hs w) v c:=by
          generalize a.eval f=vf at hf
          cases hf with
          | fn _ f' va vb vs _ hs' h hm=>exact ⟨vs,hm,hs',h⟩
        obtain ⟨vs,hfv,hsz,hvs⟩:=hfv
        have ha:=args_get _ _ he args
        have hcall:=callD_sound hX hS hR (fnId fi) _ (bif Nat.blt fi mvB then args.map a.eval++vs else vs++args.map a.eval) (by unfold capA;cases Nat.blt fi mvB<;>simp [hsz]) (fun i v c hv hc=>by
          unfold capA at hc
          cases hb:Nat.blt fi mvB with
          | true =>
            simp only [hb,cond_true] at hv hc
            rw [Array.getElem?_append] at hv
            rw [List.getElem?_append] at hc
            simp only [Array.size_map,List.length_map,Array.length_toList] at hv hc
            split at hv
            · rename_i hlt
              rw [if_pos hlt] at hc
              exact ha i v c hv hc
            · rename_i hlt
              rw [if_neg hlt] at hc
              exact hvs _ v c hv hc
          | false =>
            simp only [hb,cond_false] at hv hc
            rw [Array.getElem?_append] at hv
            rw [List.getElem?_append] at hc
            rw [hsz] at hv
            split at hv
            · rename_i hlt
              rw [if_pos hlt] at hc
              exact hvs _ v c hv hc
            · rename_i hlt
              rw [if_neg hlt] at hc
              exact ha _ v c hv hc) dst r hr hok
        have hex:(execOp a.eval ⟨dst,.call ⟨.value f,args,argTypes⟩,type,pos,after,guard⟩).run X.P w=(callFunc (fnId fi) (bif Nat.blt fi mvB then args.map a.eval++vs else vs++args.map a.eval)).run X.P w:=by
          unfold fnId
          unfold mkFn at hfv
          cases hb:Nat.blt fi mvB with
          | true =>
            simp only [hb,cond_true] at hfv ⊢
            simp [execOp,resolve,hfv,Deferred.ofValue,invoke]
          | false =>
            simp only [hb,cond_false] at hfv ⊢
            generalize fi % mvB=gi at hfv ⊢
            simp [execOp,resolve,hfv,Deferred.ofValue,invoke]
        rw [hex]
        rcases hcall with ⟨h1,h2⟩ | ⟨v,w',h1,h2⟩
        · exact .inr (.inr ⟨fnId fi,_,h1,h2⟩)
        · exact .inl ⟨v,w',h1,h2⟩
      · subst hr;exact (hno hok).elim
    | invoke rc m=>simp only at hr;subst hr;exact (hno hok).elim
    | builtin b =>
      have hargs:=args_get _ _ he args
      have hex:∃cs,(execOp a.eval ⟨dst,.call ⟨.builtin b,args,argTypes⟩,type,pos,after,guard⟩).run X.P w=(builtin b argTypes type cs (args.map a.eval)).run X.P w :=
        ⟨_,by simp [execOp,resolve,invoke];rfl⟩
      obtain ⟨consts,hex⟩:=hex
      rw [hex]
      cases b with
      | len =>
        simp only at hr
        split at hr
        · rename_i x t hx ht
          obtain rfl:args=#[x]:=by rw [←args.toArray_toList,hx]
          obtain rfl:argTypes=#[t]:=by rw [←argTypes.toArray_toList,ht]
          obtain ⟨v,h1,h2,h3⟩:=lenD_sound hX t _ _ type (he x) r hr hok hS
          exact .pure hX hS (run_v (s:=Builtin.len_ #[t] type _) (by simpa using h1)) h2 h3
        · subst hr;exact (hno hok).elim
      | cap =>
        simp only at hr
        split at hr
        · rename_i x t hx ht
          obtain rfl:args=#[x]:=by rw [←args.toArray_toList,hx]
          obtain rfl:argTypes=#[t]:=by rw [←argTypes.toArray_toList,ht]
          obtain ⟨v,h1,h2,h3⟩:=capD_sound t _ _ type (he x) r hr hok
          exact .pure hX hS (run_v (s:=Builtin.cap_ #[t] type _) (by simpa using h1)) h2 h3
        · subst hr;exact (hno hok).elim
      | append =>
        simp only at hr
        split at hr
        · rename_i x y t t2 hx ht
          obtain rfl:args=#[x,y]:=by rw [←args.toArray_toList,hx]
          obtain rfl:argTypes=#[t,t2]:=by rw [←argTypes.toArray_toList,ht]
          obtain ⟨v,w',h1,h2⟩:=appendD_sound hX hS _ t t2 type _ _ _ _ (he x) (he y) r hr hok
          exact .inl ⟨v,w',run_v (s:=Builtin.append_ #[t,t2] type _) (by simpa using h1),h2⟩
        · subst hr;exact (hno hok).elim
      | min =>
        simp only at hr
        split at hr
        · rename_i x l hx
          obtain rfl:args=(x::l).toArray:=by rw [←args.toArray_toList,hx]
          cases hd:minD false (evK X tm ks x) (l.map (evK X tm ks)) with
          | none=>rw [hd] at hr;subst hr;exact (hno hok).elim
          | some d =>
            rw [hd] at hr
            subst hr
            obtain ⟨v,h1,h2⟩:=minD_sound X.P w false _ (l.map a.eval) _ _ d (he x) (by simp) (fun i v c hv hc=>hargs (i+1) v c (by simpa using hv) (by simpa using hc)) hd
            exact .pure hX hS (run_v (s:=Builtin.min_ argTypes type _) (by simpa [Builtin.min_] using h1)) h2 rfl
        · subst hr;exact (hno hok).elim
      | max =>
        simp only at hr
        split at hr
        · rename_i x l hx
          obtain rfl:args=(x::l).toArray:=by rw [←args.toArray_toList,hx]
          cases hd:minD true (evK X tm ks x) (l.map (evK X tm ks)) with
          | none=>rw [hd] at hr;subst hr;exact (hno hok).elim
          | some d =>
            rw [hd] at hr
            subst hr
            obtain ⟨v,h1,h2⟩:=minD_sound X.P w true _ (l.map a.eval) _ _ d (he x) (by simp) (fun i v c hv hc=>hargs (i+1) v c (by simpa using hv) (by simpa using hc)) hd
            exact .pure hX hS (run_v (s:=Builtin.max_ argTypes type _) (by simpa [Builtin.max_] using h1)) h2 rfl
        · subst hr;exact (hno hok).elim
      | _=>simp only at hr;subst hr;exact (hno hok).elim
  all_goals (simp only at hr;subst hr;exact (hno hok).elim)
end
end Go.Eng
namespace Go.Eng
open Go.RowKit
variable {α:Type}
theorem getT_put (tm:List (D α)) (dst:Option Nat) (t:Nat) (x:D α):getT (putT tm dst x) t=if dst=some t∧t < tm.length then x else getT tm t:=by
 cases dst with
 | none=>simp [putT]
 | some d=>simp [putT,getT_set]
theorem putT_length (tm:List (D α)) (dst:Option Nat) (x:D α):(putT tm dst x).length=tm.length:=by
 cases dst<;>simp [putT,setT_length]
def KeyIn (tm:List (D α)) (K:Nat→Prop):Prop:=∀t ks b e,getT tm t=.gd ks b e→∀k∈ks,K k.1
theorem kill_gd {ns:Nat→Bool} {d e:D α} {ks:List (Nat×Bool)} {b:Bool} (h:kill ns d=.gd ks b e):∃e',d=.gd ks b e':=by
 cases d<;>simp only [kill] at h
 case gd ks' b' d=>simp only [D.gd.injEq] at h;obtain ⟨rfl,rfl,_⟩:=h;exact ⟨_,rfl⟩
 case arr o=>cases hb:ns o<;>simp [hb] at h
 case ptr o f=>cases hb:ns o<;>simp [hb] at h
 case epr o i f=>cases hb:ns o<;>simp [hb] at h
 case mp o=>cases hb:ns o<;>simp [hb] at h
 all_goals simp at h
theorem KeyIn.kill {tm:List (D α)} {K:Nat→Prop} (h:KeyIn tm K) (ns:Nat→Bool):KeyIn (tm.map (kill ns)) K:=by
 intro t ks b e ht
 rw [getT_map _ (by simp [Eng.kill])] at ht
 obtain ⟨e',he⟩:=kill_gd ht
 exact h t ks b e' he
theorem KeyIn.mono {tm:List (D α)} {K K':Nat→Prop} (h:KeyIn tm K) (hk:∀s,K s→K' s):KeyIn tm K' :=
 fun t ks b e ht k hk'=>hk _ (h t ks b e ht k hk')
theorem KeyIn.put {tm:List (D α)} {K:Nat→Prop} (h:KeyIn tm K) (dst:Option Nat) (x:D α) (hx:∀ks b e,x=.gd ks b e→∀k∈ks,K k.1):KeyIn (putT tm dst x) K:=by
 intro t ks b e ht
 rw [getT_put] at ht
 split at ht
 ·exact hx ks b e ht
 ·exact h t ks b e ht
theorem RD.noGd {C:Pay α} {cx:Cx α} {v:Value} {ks:List (Nat×Bool)} {b:Bool} {e:D α} (h:RD C cx v (.gd ks b e)):False:=by cases h
theorem put_tmps (a:Act) (dst:Option Nat) (v:Value) (t:Nat):(a.put dst v).tmps[t]?=if dst=some t∧t < a.tmps.size then some v else a.tmps[t]?:=by
 cases dst with
 | none=>simp [Act.put]
 | some d =>
  simp only [Act.put,Array.getElem?_setIfInBounds,Option.some.injEq]
  by_cases h:d=t
  ·subst h
   by_cases h2:d < a.tmps.size
   ·simp [h2]
   ·simp [h2]
  ·simp [h]
theorem put_size (a:Act) (dst:Option Nat) (v:Value):(a.put dst v).tmps.size=a.tmps.size:=by cases dst<;>simp [Act.put]
theorem holds_put {a:Act} {dst:Option Nat} {v:Value} {ks:List (Nat×Bool)} (h:∀k∈ks,dst≠some k.1):holds (a.put dst v).tmps ks↔holds a.tmps ks:=by
 unfold holds
 constructor<;>intro hh k hk<;>have:=hh k hk<;>rw [put_tmps,if_neg (fun h'=>h k hk h'.1)] at *<;>exact this
section
variable {X:Ctx α} {g:Gh} {tm:List (D α)} {hs:Obs α} {a:Act} {w:World}
theorem Sim.put (hS:Sim X g tm hs a w) {dst:Option Nat} {v:Value} {d:D α} (hd:RG X.C (cxOf g hs w) a.tmps v d) (hdk:∀ks b e,d=.gd ks b e→∀k∈ks,dst≠some k.1)
  {K:Nat→Prop} (hK:KeyIn tm K) (hdst:∀s,dst=some s→¬ K s):Sim X g (putT tm dst d) hs (a.put dst v) w:=by
 have hRG:∀(u:Value) (e:D α),(∀ks b e',e=.gd ks b e'→∀k∈ks,dst≠some k.1)→RG X.C (cxOf g hs w) a.tmps u e→RG X.C (cxOf g hs w) (a.put dst v).tmps u e:=by
  intro u e he h
  cases e
  case gd ks b e' =>
   have:=holds_put (a:=a) (v:=v) (he ks b e' rfl)
   exact ⟨fun h1=>h.1 (this.1 h1),fun h1=>h.2 (fun h2=>h1 (this.2 h2))⟩
  all_goals exact h
 refine ⟨by rw [put_size,putT_length];exact hS.size,fun t=>?_,by cases dst<;>exact hS.dfr,hS.obs,hS.inj,hS.own,hS.below,hS.av0,hS.lav,hS.top,hS.glob⟩
 rw [getT_put]
 simp only [Array.getD_eq_getD_getElem?,put_tmps,hS.size]
 by_cases h:dst=some t∧t < tm.length
 ·rw [if_pos h,if_pos h]
  exact hRG v d hdk hd
 ·rw [if_neg h,if_neg h]
  refine hRG _ _ (fun ks b e he k hk hd'=>hdst _ hd' (hK t ks b e he k hk)) ?_
  have:=hS.tm t
  simpa [Array.getD_eq_getD_getElem?] using this
theorem RG.of {C:Pay α} {cx:Cx α} {tmps:Array Value} {v:Value} {d:D α} (h:RD C cx v d):RG C cx tmps v d:=by
 cases d
 case gd=>exact h.noGd.elim
 all_goals exact h
theorem binD_ch (op:BinOp) (t:TypeId) (x y:D α):(binD X op t x y).ch=none:=by
 unfold binD intOp shiftOp strOp
 simp only [Bool.cond_eq_ite]
 repeat' (first | rfl | split)
theorem binN_ch (op:BinOp) (t:TypeId) (xo yo:Operand) (x y:D α):(binN X op t xo yo x y).ch=none:=by
 unfold binN
 split
 ·simp only [Bool.cond_eq_ite];split<;>rfl
 ·simp only [Bool.cond_eq_ite];split<;>rfl
 ·exact binD_ch _ _ _ _
theorem unD_ch (op:UnOp) (x:D α):(unD op x).ch=none:=by
 unfold unD
 repeat' (first | rfl | split)
theorem convD_ch (s t:TypeId) (x:D α):(convD X hs s t x).ch=none:=by
 unfold convD
 repeat' (first | rfl | split)
theorem Res.o_ch (d:Option (D α)):(Res.o d).ch=none:=by cases d<;>rfl
theorem fieldD_ch (t:TypeId) (x:D α) (f:Nat):(fieldD X.P t x f).ch=none:=by
 unfold fieldD
 repeat' (first | rfl | exact Res.o_ch _ | split)
theorem fieldAddrD_ch (t:TypeId) (x:D α) (f:Nat):(fieldAddrD X.P t x f).ch=none:=by
 unfold fieldAddrD
 simp only [Bool.cond_eq_ite]
 repeat' (first | rfl | exact Res.o_ch _ | split)
theorem indexD_ch (t:TypeId) (x i:D α):(indexD X.P t x i).ch=none:=by
 unfold indexD
 repeat' (first | rfl | exact Res.o_ch _ | split)
theorem indexAddrD_ch (t:TypeId) (x i:D α):(indexAddrD X hs t x i).ch=none:=by
 unfold indexAddrD
 simp only [Bool.cond_eq_ite]
 repeat' (first | rfl | exact Res.o_ch _ | split)
theorem buildD_ch (t:TypeId) (ps:List (Nat×D α)):(buildD X.P t ps).ch=none:=by
 unfold buildD
 repeat' (first | rfl | exact Res.o_ch _ | split)
theorem capD_ch (t:TypeId) (x:D α):(capD X t x).ch=none:=by
 unfold capD
 repeat' (first | rfl | split)
theorem lenD_ch (t:TypeId) (x:D α):(lenD X hs t x).ch=none:=by
 unfold lenD
 repeat' (first | rfl | exact Res.o_ch _ | split)
theorem sliceD_ch (t:TypeId) (x:D α) (l h m:Option (D α)):(sliceD X hs tm t x l h m).ch=none∧(∀tm',sliceD X hs tm' t x l h m=sliceD X hs tm t x l h m)∨∃hs',(sliceD X hs tm t x l h m).ch=some (tm,hs'):=by
 unfold sliceD
 repeat' (first | exact .inl ⟨rfl,fun _=>rfl⟩ | exact .inr ⟨_,rfl⟩ | split)
theorem buildSliceD_ch (t:TypeId) (n:Nat) (ps:List (Nat×D α)):(buildSliceD X hs tm t n ps).ch=none∧(∀tm',buildSliceD X hs tm' t n ps=buildSliceD X hs tm t n ps)∨∃hs',(buildSliceD X hs tm t n ps).ch=some (tm,hs'):=by
 unfold buildSliceD
 repeat' (first | exact .inl ⟨rfl,fun _=>rfl⟩ | exact .inr ⟨_,rfl⟩ | split)
 generalize isNil _=b
 cases b
 ·exact .inr ⟨_,rfl⟩
 ·exact .inl ⟨rfl,fun _=>rfl⟩
theorem storeD_ch (t:TypeId) (x y:D α):(storeD X tm hs t x y).ch=none∧(∀tm',storeD X tm' hs t x y=storeD X tm hs t x y)∨∃hs',(storeD X tm hs t x y).ch=some (tm,hs'):=by
 unfold storeD
 repeat' (first | exact .inl ⟨rfl,fun _=>rfl⟩ | exact .inr ⟨_,rfl⟩ | split)
theorem lookupD_ch (t:TypeId) (x y:D α) (ok:Bool):(lookupD X hs t x y ok).ch=none:=by
 unfold lookupD
 repeat' (first | rfl | split)
theorem mapUpdateD_ch (t:TypeId) (x y z:D α):(mapUpdateD X tm hs t x y z).ch=none∧(∀tm',mapUpdateD X tm' hs t x y z=mapUpdateD X tm hs t x y z)∨∃hs',(mapUpdateD X tm hs t x y z).ch=some (tm,hs'):=by
 unfold mapUpdateD
 repeat' (first | exact .inl ⟨rfl,fun _=>rfl⟩ | exact .inr ⟨_,rfl⟩ | split)
theorem makeMapD_ch (dst:Nat) (t:TypeId):(makeMapD X tm hs dst t).ch=none∧(∀tm',makeMapD X tm' hs dst t=makeMapD X tm hs dst t)∨∃ns hs',(makeMapD X tm hs dst t).ch=some (tm.map (kill ns),hs'):=by
 unfold makeMapD
 repeat' (first | exact .inl ⟨rfl,fun _=>rfl⟩ | exact .inr ⟨_,_,rfl⟩ | split)
theorem makeSliceD_ch (dst:Nat) (t:TypeId) (x y:D α):(makeSliceD X tm hs dst t x y).ch=none∧(∀tm',makeSliceD X tm' hs dst t x y=makeSliceD X tm hs dst t x y)∨∃ns hs',(makeSliceD X tm hs dst t x y).ch=some (tm.map (kill ns),hs'):=by
 unfold makeSliceD
 split
 ·rename_i e _ _ _ _ _
  cases zu8 X.P e with
  | true =>
   simp only [cond_true]
   split
   ·exact .inr ⟨_,_,rfl⟩
   ·exact .inl ⟨rfl,fun _=>rfl⟩
  | false =>
   simp only [cond_false]
   split
   ·exact .inr ⟨_,_,rfl⟩
   ·exact .inl ⟨rfl,fun _=>rfl⟩
 ·exact .inl ⟨rfl,fun _=>rfl⟩
theorem backM_none {ns:List Nat} {tops nests:List (Nat×Nat)} {H:Obs α} {d:D α} (h:backM X tm hs tops nests ns H d=none) (tm':List (D α)):backM X tm' hs tops nests ns H d=none:=by
 unfold backM at h ⊢
 simp only at h ⊢
 split at h
 ·revert h
  generalize List.all _ _=b
  generalize List.all _ _=b'
  cases b<;>cases b'<;>simp
 ·rfl
theorem callMD_ch (f:FuncId) (args:List (D α)):(callMD X hs tm f args).ch=none∧(∀tm',callMD X hs tm' f args=callMD X hs tm f args)∨∃ns hs',(callMD X hs tm f args).ch=some (tm.map (kill ns),hs'):=by
 unfold callMD
 split
 ·split
  ·rename_i tops nests H ds ns _ _ b os d _
   cases h:backM X tm hs tops nests ns (decH os) d with
   | none =>
    refine .inl ⟨rfl,fun tm'=>?_⟩
    simp only [backM_none h tm']
   | some ch =>
    refine .inr ?_
    unfold backM at h
    simp only at h
    split at h
    ·revert h
     generalize (_&&_:Bool)=b
     cases b with
     | false=>simp
     | true =>
      intro h
      simp only [cond_true,Option.some.injEq] at h
      subst h
      exact ⟨_,_,rfl⟩
    ·simp at h
  ·exact .inl ⟨rfl,fun _=>rfl⟩
 ·exact .inl ⟨rfl,fun _=>rfl⟩
theorem callD_ch (dst:Option Nat) (f:FuncId) (args:List (D α)):(callD X hs tm dst f args).ch=none∧(∀tm',callD X hs tm' dst f args=callD X hs tm dst f args)∨∃ns hs',(callD X hs tm dst f args).ch=some (tm.map (kill ns),hs'):=by
 have hid:∀hs':Obs α,∃ns hs'',(some (tm,hs'):Option (List (D α)×Obs α))=some (tm.map (kill ns),hs''):=fun hs'=>⟨fun _=>false,hs',by simp [show (kill fun _=>false:D α→D α)=id from funext kill_none]⟩
 unfold callD
 cases mOf X f with
 | true=>exact callMD_ch f args
 | false =>
 simp only [cond_false]
 simp only [Bool.cond_eq_ite]
 repeat' (first | exact .inl ⟨rfl,fun _=>rfl⟩ | exact .inr (hid _) | split)
theorem appendD_ch (dst:Nat) (t t2:TypeId) (x y:D α):(appendD X hs tm dst t t2 x y).ch=none∧(∀tm',appendD X hs tm' dst t t2 x y=appendD X hs tm dst t t2 x y)∨∃ns hs',(appendD X hs tm dst t t2 x y).ch=some (tm.map (kill ns),hs'):=by
 unfold appendD appendTo
 repeat' (first | exact .inl ⟨rfl,fun _=>rfl⟩ | exact .inr ⟨_,_,rfl⟩ | split)
theorem evalOp_on (o:Oper) (ks:List (Nat×Bool)):(∃ns hs',(evalOp X tm hs ks o).ch=some (tm.map (kill ns),hs')) ∨
  ((evalOp X tm hs ks o).ch=none∧∀tm',(∀x∈o.op.operands,∀ks,evK X tm' ks x=evK X tm ks x)→evalOp X tm' hs ks o=evalOp X tm hs ks o):=by
 have hid:∀{r:Res α},(∃hs',r.ch=some (tm,hs'))→∃ns hs',r.ch=some (tm.map (kill ns),hs'):=fun ⟨hs',h⟩=>⟨fun _=>false,hs',by rw [h];simp [show (kill fun _=>false:D α→D α)=id from funext kill_none]⟩
 obtain ⟨dst,op,type,pos,after,guard⟩:=o
 have hps:∀(ps:Array (Nat×Operand)) (tm':List (D α)),(∀x∈(ps.toList.map (·.2)).toArray,∀ks,evK X tm' ks x=evK X tm ks x)→(ps.toList.map fun x=>(x.1,evK X tm' ks x.2))=ps.toList.map fun x=>(x.1,evK X tm ks x.2):=by
  intro ps tm' h
  refine List.map_congr_left fun p hp=>?_
  rw [h p.2 (by simp;exact ⟨p.1,by simpa using hp⟩)]
 have has:∀(xs:Array Operand) (tm':List (D α)),(∀x∈xs,∀ks,evK X tm' ks x=evK X tm ks x)→xs.toList.map (evK X tm' ks)=xs.toList.map (evK X tm ks) :=
  fun xs tm' h=>List.map_congr_left fun p hp=>h p (by simpa using hp) ks
 have hop:∀(l:Option Operand) (tm':List (D α)),(∀x∈l.toArray,∀ks,evK X tm' ks x=evK X tm ks x)→l.map (evK X tm' ks)=l.map (evK X tm ks):=by
  intro l tm' h
  cases l with
  | none=>rfl
  | some x=>simp only [Option.map_some];rw [h x (by simp) ks]
 cases op
 case move x=>exact .inr ⟨rfl,fun tm' h=>by simp only [evalOp];rw [h x (by simp [Op.operands])]⟩
 case assign x=>exact .inr ⟨rfl,fun tm' h=>by simp only [evalOp];rw [h x (by simp [Op.operands])]⟩
 case pick c x y =>
  refine .inr ⟨?_,fun tm' h=>?_⟩
  ·simp only [evalOp]
   repeat' (first | rfl | split)
  ·have h1:=h c (by simp [Op.operands])
   have h2:=h x (by simp [Op.operands])
   have h3:=h y (by simp [Op.operands])
   simp only [evalOp,h1,h2,h3]
 case box t x =>
  cases hs':storeCellsD X.P t (evK X tm ks x) with
  | none=>exact .inr ⟨by simp only [evalOp,hs'];rfl,fun tm' h=>by simp only [evalOp];rw [h x (by simp [Op.operands])];simp only [hs']⟩
  | some cs=>exact .inl ⟨_,_,by simp only [evalOp,hs',boxD];rfl⟩
 case alloc t =>
  cases hs':(zeroD X.P t:Option (D α)) with
  | none=>exact .inr ⟨by simp only [evalOp,hs'];rfl,fun tm' h=>by simp only [evalOp,hs']⟩
  | some z =>
   cases hg:goodCells (cellsD z) with
   | false=>exact .inr ⟨by simp only [evalOp,hs',hg,cond_false];rfl,fun tm' h=>by simp only [evalOp,hs',hg,cond_false]⟩
   | true=>exact .inl ⟨_,_,by simp only [evalOp,hs',hg,cond_true,boxD];rfl⟩
 case build t ps=>exact .inr ⟨buildD_ch _ _,fun tm' h=>by simp only [evalOp];rw [hps ps tm' h]⟩
 case buildSlice t n ps =>
  rcases buildSliceD_ch (X:=X) (hs:=hs) (tm:=tm) t n (ps.toList.map fun x=>(x.1,evK X tm ks x.2)) with ⟨h1,h2⟩ | h1
  ·exact .inr ⟨h1,fun tm' h=>by simp only [evalOp];rw [hps ps tm' h];exact h2 tm'⟩
  ·exact .inl (hid h1)
 case load t x =>
  refine .inr ⟨?_,fun tm' h=>by simp only [evalOp];rw [h x (by simp [Op.operands])]⟩
  simp only [evalOp]
  split
  ·exact Res.o_ch _
  ·rfl
 case store t x y =>
  rcases storeD_ch (X:=X) (hs:=hs) (tm:=tm) t (evK X tm ks x) (evK X tm ks y) with ⟨h1,h2⟩ | h1
  ·exact .inr ⟨h1,fun tm' h=>by simp only [evalOp];rw [h x (by simp [Op.operands]),h y (by simp [Op.operands])];exact h2 tm'⟩
  ·exact .inl (hid h1)
 case makeMap t rsv =>
  cases rsv with
  | none =>
   rcases makeMapD_ch (X:=X) (hs:=hs) (tm:=tm) (dst.getD 0) t with ⟨h1,h2⟩ | h1
   ·exact .inr ⟨h1,fun tm' _=>h2 tm'⟩
   ·exact .inl h1
  | some y=>exact .inr ⟨rfl,fun _ _=>rfl⟩
 case makeSlice t x y =>
  rcases makeSliceD_ch (X:=X) (hs:=hs) (tm:=tm) (dst.getD 0) t (evK X tm ks x) (evK X tm ks y) with ⟨h1,h2⟩ | h1
  ·exact .inr ⟨h1,fun tm' h=>by simp only [evalOp];rw [h x (by simp [Op.operands]),h y (by simp [Op.operands])];exact h2 tm'⟩
  ·exact .inl h1
 case lookup t x y ok=>exact .inr ⟨lookupD_ch _ _ _ _,fun tm' h=>by simp only [evalOp];rw [h x (by simp [Op.operands]),h y (by simp [Op.operands])]⟩
 case mapUpdate t m y z =>
  rcases mapUpdateD_ch (X:=X) (hs:=hs) (tm:=tm) t (evK X tm ks m) (evK X tm ks y) (evK X tm ks z) with ⟨h1,h2⟩ | h1
  ·exact .inr ⟨h1,fun tm' h=>by simp only [evalOp];rw [h m (by simp [Op.operands]),h y (by simp [Op.operands]),h z (by simp [Op.operands])];exact h2 tm'⟩
  ·exact .inl (hid h1)
 case insert t m y z =>
  rcases mapUpdateD_ch (X:=X) (hs:=hs) (tm:=tm) t (evK X tm ks m) (evK X tm ks y) (evK X tm ks z) with ⟨h1,h2⟩ | h1
  ·exact .inr ⟨h1,fun tm' h=>by simp only [evalOp];rw [h m (by simp [Op.operands]),h y (by simp [Op.operands]),h z (by simp [Op.operands])];exact h2 tm'⟩
  ·exact .inl (hid h1)
 case nilCheck x =>
  refine .inr ⟨?_,fun tm' h=>by simp only [evalOp];rw [h x (by simp [Op.operands])]⟩
  simp only [evalOp]
  split<;>rfl
 case binOp op t x y ty=>exact .inr ⟨binN_ch _ _ _ _ _ _,fun tm' h=>by simp only [evalOp];rw [h x (by simp [Op.operands]),h y (by simp [Op.operands])]⟩
 case unOp op t x=>exact .inr ⟨unD_ch _ _,fun tm' h=>by simp only [evalOp];rw [h x (by simp [Op.operands])]⟩
 case convert s t x=>exact .inr ⟨convD_ch _ _ _,fun tm' h=>by simp only [evalOp];rw [h x (by simp [Op.operands])]⟩
 case makeFunc fn first cap =>
  cases fn with
  | func f =>
   refine .inr ⟨?_,fun tm' h=>by simp only [evalOp];rw [has cap tm' (fun x hx=>h x (by simp [Op.operands,hx])),has first tm' (fun x hx=>h x (by simp [Op.operands,hx]))]⟩
   simp only [evalOp]
   cases Nat.blt f mvB<;>cases Nat.beq first.size 0<;>cases Nat.beq cap.size 0<;>rfl
  | _=>exact .inr ⟨rfl,fun _ _=>rfl⟩
 case slice t x l h m =>
  rcases sliceD_ch (X:=X) (hs:=hs) (tm:=tm) t (evK X tm ks x) (l.map (evK X tm ks)) (h.map (evK X tm ks)) (m.map (evK X tm ks)) with ⟨h1,h2⟩ | h1
  ·refine .inr ⟨h1,fun tm' hh=>?_⟩
   simp only [evalOp]
   rw [hh x (by simp [Op.operands]),hop l tm' (fun x hx=>hh x (by simp [Op.operands] at hx ⊢;simp [hx])),hop h tm' (fun x hx=>hh x (by simp [Op.operands] at hx ⊢;simp [hx])),hop m tm' (fun x hx=>hh x (by simp [Op.operands] at hx ⊢;simp [hx]))]
   exact h2 tm'
  ·exact .inl (hid h1)
 case fieldAddr t x f=>exact .inr ⟨fieldAddrD_ch _ _ _,fun tm' h=>by simp only [evalOp];rw [h x (by simp [Op.operands])]⟩
 case field t x f=>exact .inr ⟨fieldD_ch _ _ _,fun tm' h=>by simp only [evalOp];rw [h x (by simp [Op.operands])]⟩
 case indexAddr t x i=>exact .inr ⟨indexAddrD_ch _ _ _,fun tm' h=>by simp only [evalOp];rw [h x (by simp [Op.operands]),h i (by simp [Op.operands])]⟩
 case index t x i=>exact .inr ⟨indexD_ch _ _ _,fun tm' h=>by simp only [evalOp];rw [h x (by simp [Op.operands]),h i (by simp [Op.operands])]⟩
 case extract x i =>
  refine .inr ⟨?_,fun tm' h=>by simp only [evalOp];rw [h x (by simp [Op.operands])]⟩
  simp only [evalOp]
  split
  ·exact Res.o_ch _
  ·rfl
 case call c =>
  obtain ⟨callee,args,argTypes⟩:=c
  cases callee with
  | value f =>
   cases hf:evK X tm ks f with
   | fn g cs =>
    rcases callD_ch (X:=X) (hs:=hs) (tm:=tm) dst (fnId g) (capA g cs (args.toList.map (evK X tm ks))) with ⟨h1,h2⟩ | h1
    ·refine .inr ⟨by simp only [evalOp,hf];exact h1,fun tm' h=>?_⟩
     simp only [evalOp]
     rw [h f (by simp [Op.operands,Call.operands]),hf,has args tm' (fun x hx=>h x (by simp [Op.operands,Call.operands,hx]))]
     exact h2 tm'
    ·exact .inl (by simp only [evalOp,hf];exact h1)
   | _=>exact .inr ⟨by simp only [evalOp,hf];rfl,fun tm' h=>by simp only [evalOp];rw [h f (by simp [Op.operands,Call.operands]),hf]⟩
  | invoke rc m=>exact .inr ⟨rfl,fun _ _=>rfl⟩
  | builtin b =>
   have hx1:∀x∈args.toList,x∈(Op.call ⟨.builtin b,args,argTypes⟩).operands:=by intro x hx;simpa [Op.operands,Call.operands] using hx
   cases b with
   | len =>
    simp only [evalOp]
    split
    ·rename_i x t hx ht
     exact .inr ⟨lenD_ch _ _,fun tm' h=>by rw [h x (hx1 x (by simp [hx]))]⟩
    ·exact .inr ⟨rfl,fun _ _=>rfl⟩
   | cap =>
    simp only [evalOp]
    split
    ·rename_i x t hx ht
     exact .inr ⟨capD_ch _ _,fun tm' h=>by rw [h x (hx1 x (by simp [hx]))]⟩
    ·exact .inr ⟨rfl,fun _ _=>rfl⟩
   | append =>
    simp only [evalOp]
    split
    ·rename_i x y t t2 hx ht
     rcases appendD_ch (X:=X) (hs:=hs) (tm:=tm) (dst.getD 0) t t2 (evK X tm ks x) (evK X tm ks y) with ⟨h1,h2⟩ | h1
     ·exact .inr ⟨h1,fun tm' h=>by rw [h x (hx1 x (by simp [hx])),h y (hx1 y (by simp [hx]))];exact h2 tm'⟩
     ·exact .inl h1
    ·exact .inr ⟨rfl,fun _ _=>rfl⟩
   | min =>
    simp only [evalOp]
    split
    ·rename_i x l hx
     refine .inr ⟨Res.o_ch _,fun tm' h=>?_⟩
     have hl:l.map (evK X tm' ks)=l.map (evK X tm ks):=List.map_congr_left fun y hy=>h y (hx1 y (by simp [hx,hy])) ks
     rw [h x (hx1 x (by simp [hx])),hl]
    ·exact .inr ⟨rfl,fun _ _=>rfl⟩
   | max =>
    simp only [evalOp]
    split
    ·rename_i x l hx
     refine .inr ⟨Res.o_ch _,fun tm' h=>?_⟩
     have hl:l.map (evK X tm' ks)=l.map (evK X tm ks):=List.map_congr_left fun y hy=>h y (hx1 y (by simp [hx,hy])) ks
     rw [h x (hx1 x (by simp [hx])),hl]
    ·exact .inr ⟨rfl,fun _ _=>rfl⟩
   | _=>exact .inr ⟨rfl,fun _ _=>rfl⟩
 all_goals exact .inr ⟨rfl,fun _ _=>rfl⟩
inductive AStep (X:Ctx α) (ops:Array Oper) (i:Nat) (o:Oper) (tm:List (D α)) (hs:Obs α):List (D α)→Obs α→Bool→Prop
 | quiet (g:List (Nat×Bool)×Bool) (hg:guardD ops i tm o=some g) (hc:(evalOp X tm hs g.1 o).ch=none) (hok:((evalOp X tm hs g.1 o).ok||!g.2)=true) :
   AStep X ops i o tm hs (putT tm o.dst (wrapG g.1 g.2 (evalOp X tm hs g.1 o).d)) hs false
 | write (g:List (Nat×Bool)×Bool) (hg:guardD ops i tm o=some g) (tm':List (D α)) (hs':Obs α) (hc:(evalOp X tm hs g.1 o).ch=some (tm',hs')) (h2:g.2=true)
   (hok:(evalOp X tm hs g.1 o).ok=true):AStep X ops i o tm hs (putT tm' o.dst (evalOp X tm hs g.1 o).d) hs' true
 | off (g:List (Nat×Bool)×Bool) (hg:guardD ops i tm o=some g) (h2:g.2=false) (W:Bool):AStep X ops i o tm hs (putT tm o.dst .bad) hs W
 | on (g:List (Nat×Bool)×Bool) (hg:guardD ops i tm o=some g) (hc:(evalOp X tm hs g.1 o).ch=none) (h2:g.2=true) (hok:(evalOp X tm hs g.1 o).ok=true) :
   AStep X ops i o tm hs (putT tm o.dst (evalOp X tm hs g.1 o).d) hs false
theorem slot_yield {ops:Array Oper} {tmps:Array Value} {j s:Nat} (h:slotOf ops j=some s) (b:Bool):yielded ops tmps j=some b↔tmps[s]?=some (.bool b):=by
 unfold slotOf at h
 unfold yielded
 rw [h]
 simp only [Option.bind_some]
 cases hs:tmps[s]? with
 | none=>simp
 | some v=>cases v<;>simp
theorem get_bool {tmps:Array Value} {s:Nat} {b:Bool} (h:tmps.getD s undef=.bool b):tmps[s]?=some (.bool b):=by
 simp only [Array.getD_eq_getD_getElem?] at h
 cases hg:tmps[s]? with
 | none=>rw [hg] at h;simp [undef] at h
 | some v=>rw [hg] at h;simpa using h
theorem guard_spec (hS:Sim X g tm hs a w) {ops:Array Oper} {i:Nat} {o:Oper} {q:List (Nat×Bool)×Bool} (h:guardD ops i tm o=some q) {K:Nat→Prop} (hK:KeyIn tm K) :
  (Region.wanted o (yielded ops a.tmps)=true→holds a.tmps q.1∧q.2=true)∧(q.2=true→Region.wanted o (yielded ops a.tmps)=true) ∧
  (Region.wanted o (yielded ops a.tmps)=false→¬ holds a.tmps q.1)∧∀k∈q.1,K k.1∨∃j want,o.guard=some (j,want)∧j < i∧slotOf ops j=some k.1:=by
 unfold guardD at h
 split at h
 ·rename_i hg
  simp only [Option.some.injEq] at h
  subst h
  simp [Region.wanted,hg,holds]
 ·rename_i j want hg
  cases hjb:Nat.ble (j+1) i with
  | false=>rw [hjb] at h;simp at h
  | true =>
  have hj:j < i:=Nat.le_of_ble_eq_true hjb
  rw [hjb] at h
  simp only [cond_true] at h
  split at h
  ·simp at h
  ·rename_i s hsl
   have hw:Region.wanted o (yielded ops a.tmps)=true↔a.tmps[s]?=some (.bool want):=by
    rw [←slot_yield hsl want]
    simp [Region.wanted,hg]
   have hh:∀ks,holds a.tmps ((s,want)::ks)↔a.tmps[s]?=some (.bool want)∧holds a.tmps ks:=by simp [holds]
   have ht:=hS.tm s
   split at h
   ·rename_i b hb
    rw [hb] at ht
    have hv:=get_bool (lit_eq ht)
    simp only [Option.some.injEq] at h
    subst h
    have h0:holds a.tmps ([]:List (Nat×Bool)):=by intro k hk;simp at hk
    refine ⟨fun h=>⟨(hh []).2 ⟨hw.1 h,h0⟩,?_⟩,fun h=>hw.2 ?_,fun h h'=>by rw [hw.2 ((hh []).1 h').1] at h;simp at h,fun k hk=>?_⟩
    ·have:=hw.1 h
     rw [hv] at this
     simpa using this
    ·rw [hv];simpa using h
    ·simp only [List.mem_singleton] at hk
     subst hk
     exact .inr ⟨j,want,hg,hj,hsl⟩
   ·rename_i ks t b hb
    rw [hb] at ht
    simp only [Option.some.injEq] at h
    subst h
    by_cases hk0:holds a.tmps ks
    ·obtain ⟨rfl,hr⟩:=ht.1 hk0
     have hv:=get_bool (lit_eq hr)
     refine ⟨fun h=>⟨(hh ks).2 ⟨hw.1 h,hk0⟩,?_⟩,fun h=>hw.2 ?_,fun h h'=>by rw [hw.2 ((hh ks).1 h').1] at h;simp at h,fun k hk=>?_⟩
     ·have:=hw.1 h
      rw [hv] at this
      simpa using this
     ·rw [hv];simpa using h
     ·rcases List.mem_cons.1 hk with rfl | hk
      ·exact .inr ⟨j,want,hg,hj,hsl⟩
      ·exact .inl (hK _ _ _ _ hb k hk)
    ·obtain ⟨rfl,hu⟩:=ht.2 hk0
     have hnw:¬ a.tmps[s]?=some (.bool want):=by
      intro h
      simp [Array.getD_eq_getD_getElem?,h,undef] at hu
     refine ⟨fun h=>absurd (hw.1 h) hnw,fun h=>by simp at h,fun _ h'=>hk0 ((hh ks).1 h').2,fun k hk=>?_⟩
     rcases List.mem_cons.1 hk with rfl | hk
     ·exact .inr ⟨j,want,hg,hj,hsl⟩
     ·exact .inl (hK _ _ _ _ hb k hk)
   ·rename_i ks t hb
    rw [hb] at ht
    cases t with
    | true=>simp at h
    | false =>
    simp only [cond_false,Option.some.injEq] at h
    subst h
    by_cases hk0:holds a.tmps ks
    ·exact absurd (ht.1 hk0).1 (by simp)
    ·obtain ⟨_,hu⟩:=ht.2 hk0
     have hnw:¬ a.tmps[s]?=some (.bool want):=by
      intro h
      simp [Array.getD_eq_getD_getElem?,h,undef] at hu
     refine ⟨fun h=>absurd (hw.1 h) hnw,fun h=>by simp at h,fun _ h'=>hk0 ((hh ks).1 h').2,fun k hk=>?_⟩
     rcases List.mem_cons.1 hk with rfl | hk
     ·exact .inr ⟨j,want,hg,hj,hsl⟩
     ·exact .inl (hK _ _ _ _ hb k hk)
   ·simp at h
theorem astep_sound (hX:XOk X) (hR:ROk X) (hS:Sim X g tm hs a w) {ops:Array Oper} {i:Nat} {o:Oper} {tm1:List (D α)} {hs1:Obs α} {W:Bool} (hi:ops[i]?=some o)
  (st:AStep X ops i o tm hs tm1 hs1 W) {K K':Nat→Prop} (hK:KeyIn tm K) (hKK:∀s,K s→K' s) (hd:∀s,o.dst=some s→¬ K s)
  (hg:∀j want s,o.guard=some (j,want)→j < i→slotOf ops j=some s→o.dst≠some s∧K' s)
  {Kt:Act→World→Prop} {Q:Exit→Act→World→Prop} (hQ:∀rho' a' w',Sim X { g with rho:=rho' } tm1 hs1 a' w'→KeyIn tm1 K'→Kt a' w'):wpOp X.P ops Q i Kt a w:=by
 unfold wpOp
 simp only [hi]
 cases st with
 | quiet q hq hc hok =>
  obtain ⟨g1,g2,g3,g4⟩:=guard_spec hS hq hK
  have hkeys:∀k∈q.1,K' k.1:=fun k hk=>by
   rcases g4 k hk with h | ⟨j,want,h1,h2,h3⟩
   ·exact hKK _ h
   ·exact (hg j want _ h1 h2 h3).2
  have hkd:∀k∈q.1,o.dst≠some k.1:=fun k hk he=>by
   rcases g4 k hk with h | ⟨j,want,h1,h2,h3⟩
   ·exact hd _ he h
   ·exact (hg j want _ h1 h2 h3).1 he
  by_cases hw:Region.wanted o (yielded ops a.tmps)=true
  ·rw [if_pos hw]
   obtain ⟨hh,h2⟩:=g1 hw
   simp only [h2,Bool.not_true,Bool.or_false] at hok
   refine .inl ((op_sound hX hS hR hh o hok).wp fun v w' ⟨rho',h1,h3⟩=>?_)
   simp only [hc,Option.getD_none] at h1 h3
   have hgd:∀ks b e,wrapG q.1 q.2 (evalOp X tm hs q.1 o).d=.gd ks b e→ks=q.1:=by
    intro ks b e he
    unfold wrapG at he
    split at he
    ·rw [he] at h3;exact h3.noGd.elim
    ·simp only [D.gd.injEq] at he;exact he.1.symm
   refine hQ rho' _ w' (h1.put (K:=K) ?_ (fun ks b e he k hk=>hkd k (by rw [←hgd ks b e he];exact hk)) hK hd) ((hK.mono hKK).put _ _ fun ks b e he k hk=>hkeys k (by rw [←hgd ks b e he];exact hk))
   unfold wrapG
   split
   ·exact RG.of h3
   ·exact ⟨fun _=>⟨h2,h3⟩,fun hn=>absurd hh hn⟩
  ·rw [if_neg hw]
   have hn:=g3 (by simpa using hw)
   have hq2:q.2=false:=by
    cases h:q.2 with
    | false=>rfl
    | true=>exact absurd (g2 h) hw
   have hne:q.1≠[]:=by rintro h;rw [h] at hn;exact hn (by intro k hk;simp at hk)
   have hwr:wrapG q.1 q.2 (evalOp X tm hs q.1 o).d=.gd q.1 q.2 (evalOp X tm hs q.1 o).d:=by
    unfold wrapG
    split
    ·rename_i h;exact absurd h hne
    ·rfl
   rw [hwr] at hQ
   refine hQ g.rho _ w (hS.put (K:=K) ⟨fun h=>absurd h hn,fun _=>⟨hq2,rfl⟩⟩ (fun ks b e he k hk=>hkd k (by simp only [D.gd.injEq] at he;rw [he.1];exact hk)) hK hd)
    ((hK.mono hKK).put _ _ fun ks b e he k hk=>hkeys k (by simp only [D.gd.injEq] at he;rw [he.1];exact hk))
 | write q hq tm' hs' hc h2 hok =>
  obtain ⟨g1,g2,g3,g4⟩:=guard_spec hS hq hK
  have hw:=g2 h2
  rw [if_pos hw]
  obtain ⟨hh,_⟩:=g1 hw
  refine .inl ((op_sound hX hS hR hh o hok).wp fun v w' ⟨rho',h1,h3⟩=>?_)
  simp only [hc,Option.getD_some] at h1 h3
  have hK1:KeyIn tm' K:=by
   rcases evalOp_on (X:=X) (tm:=tm) (hs:=hs) o q.1 with ⟨ns,hs'',h4⟩ | ⟨h4,_⟩
   ·rw [hc] at h4
    simp only [Option.some.injEq,Prod.mk.injEq] at h4
    rw [h4.1]
    exact hK.kill ns
   ·rw [hc] at h4;simp at h4
  exact hQ rho' _ w' (h1.put (K:=K) (RG.of h3) (fun ks b e he=>by rw [he] at h3;exact h3.noGd.elim) hK1 hd) ((hK1.mono hKK).put _ _ fun ks b e he=>by rw [he] at h3;exact h3.noGd.elim)
 | on q hq hc h2 hok =>
  obtain ⟨g1,g2,g3,g4⟩:=guard_spec hS hq hK
  have hw:=g2 h2
  rw [if_pos hw]
  obtain ⟨hh,_⟩:=g1 hw
  refine .inl ((op_sound hX hS hR hh o hok).wp fun v w' ⟨rho',h1,h3⟩=>?_)
  simp only [hc,Option.getD_none] at h1 h3
  exact hQ rho' _ w' (h1.put (K:=K) (RG.of h3) (fun ks b e he=>by rw [he] at h3;exact h3.noGd.elim) hK hd) ((hK.mono hKK).put _ _ fun ks b e he=>by rw [he] at h3;exact h3.noGd.elim)
 | off q hq h2 =>
  obtain ⟨g1,g2,g3,g4⟩:=guard_spec hS hq hK
  have hw:Region.wanted o (yielded ops a.tmps)=false:=by
   cases hw:Region.wanted o (yielded ops a.tmps) with
   | false=>rfl
   | true=>have:=(g1 hw).2;rw [h2] at this;simp at this
  rw [hw]
  simp only [Bool.false_eq_true,if_false]
  exact hQ g.rho _ w (hS.put (K:=K) (.bad _) (fun ks b e he=>by simp at he) hK hd) ((hK.mono hKK).put _ _ fun ks b e he=>by simp at he)
end
end Go.Eng
