/-
 THE ENGINE, PART S3: A REGION THAT WRITES, in any order that its edges allow: what reads or writes what is written comes up in the text's order; the rest whenever it will.
-/
import Derived.Test.YtcgbgcconigdbaaGreatDoorEngS2
namespace Go.Eng
open Go.RowKit
variable {α:Type}
section
variable {X:Ctx α}
theorem map_kill_none (tm:List (D α)):tm.map (kill fun _=>false)=tm:=by
 rw [show (kill fun _=>false:D α→D α)=id from funext kill_none];simp
theorem writes_move {tm:List (D α)} {hs:Obs α} {o:Oper} {l:List Nat×List Nat} (hw:writesOf X tm hs o=some l) {t1:List (D α)} {h1:Obs α} (hc:(evalOp X tm hs [] o).ch=some (t1,h1)) :
  ∃ns,t1=tm.map (kill ns)∧(∀n,ns n=true→n∈l.1)∧(∀k,k ∉ l.1++l.2→look h1 k=(look hs k).map (killOb ns)) ∧
   ∀tm',(∀x∈o.op.operands,∀ks,evK X tm' ks x=evK X tm ks x)→evalOp X tm' hs [] o=⟨(evalOp X tm hs [] o).ok,(evalOp X tm hs [] o).d,some (tm'.map (kill ns),h1)⟩:=by
 obtain ⟨dst,op,type,pos,after,guard⟩:=o
 unfold writesOf at hw
 rw [hc] at hw
 simp only at hw
 split at hw
 ·rename_i t a x
  simp only [evalOp] at hc ⊢
  have hmap:∀(h:Option (Ob α)),h=h.map (killOb fun _=>false):=by
   intro h
   cases h with
   | none=>rfl
   | some ob=>simp [killOb_none]
  refine ⟨fun _=>false,?_⟩
  have hag:∀tm',(∀y∈(Op.store t a x).operands,∀ks,evK X tm' ks y=evK X tm ks y)→evK X tm' [] a=evK X tm [] a∧evK X tm' [] x=evK X tm [] x :=
   fun tm' h=>⟨h a (by simp [Op.operands]) [],h x (by simp [Op.operands]) []⟩
  have hopd:(Op.store t a x).operands=(⟨none,.store t a x,type,pos,after,guard⟩:Oper).op.operands:=rfl
  rw [←hopd]
  cases ha:evK X tm [] a<;>rw [ha] at hw<;>simp only [Option.some.injEq,reduceCtorEq] at hw
  ·rename_i n off
   subst hw
   rw [ha] at hc hag
   unfold storeD at hc ⊢
   split at hc
   ·rename_i cs hcs
    simp only at hc
    split at hc
    ·rename_i old hl
     simp only [Option.some.injEq,Prod.mk.injEq] at hc
     obtain ⟨rfl,rfl⟩:=hc
     refine ⟨(map_kill_none tm).symm,fun n h=>by simp at h,fun k hk=>?_,fun tm' h=>?_⟩
     ·rw [look_upd,if_neg (fun e=>hk (by rw [e];simp))];exact hmap _
     ·obtain ⟨e1,e2⟩:=hag tm' h
      rw [e1,e2]
      simp only [hcs,hl,map_kill_none]
    ·simp [Res.no] at hc
   ·simp [Res.no] at hc
  ·rename_i n i off
   subst hw
   rw [ha] at hc hag
   unfold storeD at hc ⊢
   split at hc
   ·rename_i cs hcs
    simp only at hc
    split at hc
    ·rename_i p hl
     split at hc
     ·rename_i ds ms hld
      split at hc
      ·rename_i q hq
       simp only [Option.some.injEq,Prod.mk.injEq] at hc
       obtain ⟨rfl,rfl⟩:=hc
       refine ⟨(map_kill_none tm).symm,fun n h=>by simp at h,fun k hk=>?_,fun tm' h=>?_⟩
       ·rw [look_upd,if_neg (fun e=>hk (by rw [e];simp))];exact hmap _
       ·obtain ⟨e1,e2⟩:=hag tm' h
        rw [e1,e2]
        simp only [hcs,hl,hld,hq,map_kill_none]
      ·simp [Res.no] at hc
     ·simp [Res.no] at hc
    ·simp [Res.no] at hc
   ·simp [Res.no] at hc
 ·rename_i t m y v
  simp only [evalOp] at hc ⊢
  have hmap:∀(h:Option (Ob α)),h=h.map (killOb fun _=>false):=by
   intro h
   cases h with
   | none=>rfl
   | some ob=>simp [killOb_none]
  refine ⟨fun _=>false,?_⟩
  have hag:∀tm',(∀z∈(Op.mapUpdate t m y v).operands,∀ks,evK X tm' ks z=evK X tm ks z)→evK X tm' [] m=evK X tm [] m∧evK X tm' [] y=evK X tm [] y∧evK X tm' [] v=evK X tm [] v :=
   fun tm' h=>⟨h m (by simp [Op.operands]) [],h y (by simp [Op.operands]) [],h v (by simp [Op.operands]) []⟩
  have hopd:(Op.mapUpdate t m y v).operands=(⟨none,.mapUpdate t m y v,type,pos,after,guard⟩:Oper).op.operands:=rfl
  rw [←hopd]
  split at hw
  ·rename_i n ds ns ha hlend
   simp only [Option.some.injEq] at hw
   subst hw
   rw [ha] at hc hag
   unfold mapUpdateD at hc ⊢
   split at hc
   ·rename_i kt et o hu heq
    simp only [D.mp.injEq] at heq
    subst heq
    split at hc
    ·rename_i p hl
     rw [hlend] at hc
     split at hc
     ·rename_i v' ns' hv'
      simp only [Option.some.injEq,Prod.mk.injEq] at hv'
      obtain ⟨rfl,rfl⟩:=hv'
      split at hc
      ·rename_i q s hq hs'
       simp only [Option.some.injEq,Prod.mk.injEq] at hc
       obtain ⟨rfl,rfl⟩:=hc
       refine ⟨(map_kill_none tm).symm,fun n h=>by simp at h,fun k hk=>?_,fun tm' h=>?_⟩
       ·simp only [List.nil_append,List.mem_cons,not_or] at hk
        rw [look_upd,if_neg hk.1]
        cases isNil ns with
        | true=>exact hmap _
        | false=>rw [cond_false,look_freeze,if_neg hk.2];exact hmap _
       ·obtain ⟨e1,e2,e3⟩:=hag tm' h
        rw [e1,e2,e3]
        simp only [ha,hu,hl,hlend,hq,hs',map_kill_none]
      ·simp [Res.no] at hc
     ·simp [Res.no] at hc
    ·simp [Res.no] at hc
   ·simp [Res.no] at hc
  ·simp at hw
 ·rename_i args argTypes d
  have hopd:∀y,y∈(Op.call ⟨.builtin .append,args,argTypes⟩).operands↔y∈args:=by intro y;simp [Op.operands,Call.operands]
  have happ:∀{tm:List (D α)} {dst o n by_:Nat} {z:Bool} {p q:α} {t1:List (D α)} {h1:Obs α},(appendTo X hs tm dst o n by_ z p q).ch=some (t1,h1) →
    t1=tm.map (kill (nsOf o dst))∧(∀k,k≠o→k≠dst→look h1 k=(look hs k).map (killOb (nsOf o dst)))∧∀tm',appendTo X hs tm' dst o n by_ z p q=⟨(appendTo X hs tm dst o n by_ z p q).ok,(appendTo X hs tm dst o n by_ z p q).d,some (tm'.map (kill (nsOf o dst)),h1)⟩:=by
   intro tm dst o n by_ z p q t1 h1 h
   unfold appendTo at h ⊢
   split at h
   ·rename_i r hr
    simp only [Option.some.injEq,Prod.mk.injEq] at h
    obtain ⟨rfl,rfl⟩:=h
    exact ⟨rfl,fun k h1 h2=>by rw [look_rebind,if_neg h2,if_neg h1],fun tm'=>rfl⟩
   ·simp [Res.no] at h
  simp only [evalOp] at hc ⊢
  split at hc
  ·rename_i x y t t2 hx ht
   have hag:∀tm',(∀y∈(Op.call ⟨.builtin .append,args,argTypes⟩).operands,∀ks,evK X tm' ks y=evK X tm ks y)→evK X tm' [] x=evK X tm [] x∧evK X tm' [] y=evK X tm [] y :=
    fun tm' h=>⟨h x ((hopd x).2 (by rw [←Array.mem_toList_iff,hx];simp)) [],h y ((hopd y).2 (by rw [←Array.mem_toList_iff,hx];simp)) []⟩
   simp only [hx,List.map_cons,List.map_nil] at hw
   simp only [Option.getD_some] at hc ⊢
   unfold appendD at hc ⊢
   split at hc
   ·rename_i e hu
    split at hc
    ·rename_i n by_ p0 h1' h2' h3'
     split at hc
     ·rename_i q hq
      split at hc
      ·rename_i hx'
       rw [hx'] at hw
       simp only [Option.some.injEq] at hw
       subst hw
       obtain ⟨q1,q2,q3⟩:=happ hc
       refine ⟨nsOf d d,q1,fun n hn=>?_,fun k hk=>q2 k (by simpa using hk) (by simpa using hk),fun tm' h=>?_⟩
       ·simp only [nsOf,Bool.or_self] at hn;rw [Nat.eq_of_beq_eq_true hn];simp
       ·obtain ⟨e1,e2⟩:=hag tm' h
        simp only [e1,e2,hq,hx',cond_true]
        exact q3 tm'
      ·rename_i p hx'
       rw [hx'] at hw
       simp only [Option.some.injEq] at hw
       subst hw
       obtain ⟨q1,q2,q3⟩:=happ hc
       refine ⟨nsOf d d,q1,fun n hn=>?_,fun k hk=>q2 k (by simpa using hk) (by simpa using hk),fun tm' h=>?_⟩
       ·simp only [nsOf,Bool.or_self] at hn;rw [Nat.eq_of_beq_eq_true hn];simp
       ·obtain ⟨e1,e2⟩:=hag tm' h
        simp only [e1,e2,hq,hx',cond_true]
        exact q3 tm'
      ·rename_i n' hx'
       rw [hx'] at hw
       simp only [Option.some.injEq] at hw
       subst hw
       split at hc
       ·rename_i p hl
        obtain ⟨q1,q2,q3⟩:=happ hc
        refine ⟨nsOf n' d,q1,fun n hn=>?_,fun k hk=>?_,fun tm' h=>?_⟩
        ·simp only [nsOf,Bool.or_eq_true] at hn
         rcases hn with hn | hn
         ·rw [Nat.eq_of_beq_eq_true hn];simp
         ·rw [Nat.eq_of_beq_eq_true hn];simp
        ·simp only [List.append_nil,List.mem_cons,List.not_mem_nil,or_false,not_or] at hk
         exact q2 k hk.1 hk.2
        ·obtain ⟨e1,e2⟩:=hag tm' h
         simp only [e1,e2,hq,hx',hl,cond_true]
         exact q3 tm'
       ·simp [Res.no] at hc
      ·simp [Res.no] at hc
     ·simp [Res.no] at hc
    ·simp [Res.no] at hc
   ·simp [Res.no] at hc
  ·simp [Res.no] at hc
 ·simp at hw
theorem newNames_spec {hs hs1:Obs α} {k:Nat} {x:Ob α} (h:look hs1 k=some x) (h0:look hs k=none):k∈newNames hs hs1:=by
 unfold newNames
 exact List.mem_filter.2 ⟨List.mem_map.2 ⟨(k,x),look_mem _ _ _ h,rfl⟩,by simp [h0]⟩
theorem call_move {tm:List (D α)} {hs h2:Obs α} {o:Oper} {l:List Nat×List Nat} (hi:isCall o=true) (hw:callW X tm hs h2 o=some l) {t1:List (D α)} {h1:Obs α} (hc:(evalOp X tm hs [] o).ch=some (t1,h1)) (he:h2=h1) :
  ∃ns,t1=tm.map (kill ns)∧(∀n,ns n=true→n∈l.1)∧(∀k,k ∉ l.1++l.2→look h1 k=(look hs k).map (killOb ns)) ∧
   ∀tm',(∀x∈o.op.operands,∀ks,evK X tm' ks x=evK X tm ks x)→evalOp X tm' hs [] o=⟨(evalOp X tm hs [] o).ok,(evalOp X tm hs [] o).d,some (tm'.map (kill ns),h1)⟩:=by
 subst he
 obtain ⟨dst,op,type,pos,after,guard⟩:=o
 cases op<;>simp only [isCall] at hi<;>try (simp at hi;done)
 rename_i cl
 obtain ⟨callee,args,argTypes⟩:=cl
 cases callee with
 | invoke r m=>simp at hi
 | builtin b=>simp at hi
 | value f =>
  have hag:∀tm',(∀x∈(Op.call ⟨.value f,args,argTypes⟩).operands,∀ks,evK X tm' ks x=evK X tm ks x)→evK X tm' [] f=evK X tm [] f∧args.toList.map (evK X tm' [])=args.toList.map (evK X tm []):=by
   intro tm' h
   refine ⟨h f (by simp [Op.operands,Call.operands]) [],List.map_congr_left fun p hp=>h p (by simp [Op.operands,Call.operands];exact .inr (by simpa using hp)) []⟩
  have hmap:∀(h:Option (Ob α)),h=h.map (killOb fun _=>false):=by
   intro h
   cases h with
   | none=>rfl
   | some ob=>simp [killOb_none]
  simp only [evalOp] at hc ⊢
  unfold callW callOfM callOf at hw
  simp only at hw
  cases hf:evK X tm [] f with
  | fn g cs =>
   rw [hf] at hc hw
   simp only at hc hw ⊢
   unfold callD at hc ⊢
   cases hm:mOf X (fnId g) with
   | true =>
    simp only [hm,cond_true] at hc hw ⊢
    cases hcm:callM X hs (capA g cs (args.toList.map (evK X tm []))) with
    | none=>rw [hcm] at hw;simp at hw
    | some q =>
     obtain ⟨tops,nests,H,ds,ns⟩:=q
     rw [hcm] at hw
     simp only [Option.some.injEq] at hw
     subst hw
     unfold callMD at hc ⊢
     simp only [hcm] at hc ⊢
     cases hR:X.R (fnId g+1000000) (.env (encH H) .bad::ds) with
     | none=>rw [hR] at hc;simp [Res.no] at hc
     | some q =>
      obtain ⟨b,e⟩:=q
      rw [hR] at hc
      cases e<;>simp only at hc<;>try (simp [Res.no] at hc;done)
      rename_i os d
      cases hb:backM X tm hs tops nests ns (decH os) d with
      | none=>rw [hb] at hc;simp [Res.no] at hc
      | some q =>
       obtain ⟨tm2,hs2,d2⟩:=q
       rw [hb] at hc
       simp only [Option.some.injEq,Prod.mk.injEq] at hc
       obtain ⟨rfl,rfl⟩:=hc
       have hb0:=hb
       unfold backM at hb
       simp only at hb
       split at hb
       case h_2=>simp at hb
       rename_i H2 d' ns2 hpk'
       have hpk:=packE_spec hpk'
       revert hb
       generalize hbn:(newsOf (aboveN 1000000000000 hs) (decH os)++nestsOf (decH os) outNest (swapN tops++newsOf (aboveN 1000000000000 hs) (decH os)))=bn at hpk
       intro hb
       cases hfr0:((swapN tops++bn).all fun x=>(look (killH (fun k=>memNat (nests.map (·.1)) k) (dropA (fun k=>memNat ((tops++nests).map (·.1)) k) (freeze hs ns))) x.2).isNone)&&bn.all fun x=>Nat.ble 100000 x.2 with
       | false=>rw [hfr0] at hb;simp at hb
       | true =>
        rw [hfr0] at hb
        simp only [cond_true,Option.some.injEq,Prod.mk.injEq] at hb
        obtain ⟨e1,e2,e3⟩:=hb
        rw [Bool.and_eq_true] at hfr0
        refine ⟨fun k=>memNat (nests.map (·.1)) k,e1.symm,fun n hn=>(memNat_iff _ _).1 hn,fun k hk=>?_,fun tm' h=>?_⟩
        ·simp only [List.mem_append,not_or] at hk
         obtain ⟨k1,k2,k3,k4⟩:=hk
         have hdr:memNat ((tops++nests).map (·.1)) k=false:=by
          cases hh:memNat ((tops++nests).map (·.1)) k with
          | false=>rfl
          | true =>
           have:=(memNat_iff _ _).1 hh
           rw [List.map_append,List.mem_append] at this
           rcases this with h | h
           ·exact absurd h k2
           ·exact absurd h k1
         have hold:look (killH (fun k=>memNat (nests.map (·.1)) k) (dropA (fun k=>memNat ((tops++nests).map (·.1)) k) (freeze hs ns))) k=(look hs k).map (killOb fun k=>memNat (nests.map (·.1)) k):=by
          rw [look_killH,look_dropA,hdr]
          simp only [Bool.false_eq_true,if_false]
          rw [look_freeze,if_neg k3]
         rw [←e2,look_append]
         cases hh:look H2 k with
         | none=>exact hold
         | some x =>
          exfalso
          obtain ⟨c,_,_,h1,_⟩:=hpk.ex k x hh
          have h3:=List.all_eq_true.1 hfr0.1 _ h1
          simp only [Option.isNone_iff_eq_none] at h3
          rw [hold] at h3
          have h0:look hs k=none:=by
           cases h4:look hs k with
           | none=>rfl
           | some y=>rw [h4] at h3;simp at h3
          refine k4 (newNames_spec (x:=x) ?_ h0)
          rw [←e2,look_append,hh]
        ·obtain ⟨g1,g2⟩:=hag tm' h
         rw [g1,hf]
         simp only [g2,hm,cond_true,hcm,hR]
         have hb':backM X tm' hs tops nests ns (decH os) d=some (tm'.map (kill fun k=>memNat (nests.map (·.1)) k),hs2,d2):=by
          unfold backM at hb0 ⊢
          simp only at hb0 ⊢
          split at hb0
          case h_2=>simp at hb0
          revert hb0
          generalize (_&&_:Bool)=b'
          cases b' with
          | false=>simp
          | true =>
           intro hb0
           simp only [cond_true,Option.some.injEq,Prod.mk.injEq] at hb0 ⊢
           exact ⟨trivial,hb0.2⟩
         rw [hb',hb0]
   | false =>
    simp only [hm,cond_false] at hc hw ⊢
    cases hl:(bif Nat.blt (fnId g) 1000000 then lendAll X.C hs (capA g cs (args.toList.map (evK X tm []))) else none) with
    | none=>rw [hl] at hw;simp at hw
    | some q =>
     obtain ⟨ds,ns⟩:=q
     rw [hl] at hw hc
     simp only [Option.some.injEq] at hw hc
     subst hw
     cases hR:X.R (fnId g) ds with
     | none=>rw [hR] at hc;simp [Res.no] at hc
     | some q =>
      obtain ⟨b,d⟩:=q
      rw [hR] at hc
      simp only at hc
      have hgo:∀tm',(∀x∈(Op.call ⟨.value f,args,argTypes⟩).operands,∀ks,evK X tm' ks x=evK X tm ks x)→evK X tm' [] f=.fn g cs∧(bif Nat.blt (fnId g) 1000000 then lendAll X.C hs (capA g cs (args.toList.map (evK X tm' []))) else none)=some (ds,ns):=by
       intro tm' h
       obtain ⟨g1,g2⟩:=hag tm' h
       rw [g1,g2]
       exact ⟨hf,hl⟩
      refine ⟨fun _=>false,?_,fun n h=>by simp at h,fun k hk=>?_,fun tm' h=>?_⟩
      ·rw [map_kill_none]
       split at hc
       ·simp only [Option.some.injEq,Prod.mk.injEq] at hc;exact hc.1.symm
       ·revert hc
        cases isNil ns||flat d with
        | true=>intro hc;simp at hc
        | false=>intro hc;simp only [cond_false,Option.some.injEq,Prod.mk.injEq] at hc;exact hc.1.symm
      ·rw [←hmap]
       simp only [List.nil_append,List.mem_append,not_or] at hk
       have hfz:look (freeze hs ns) k=look hs k:=by rw [look_freeze,if_neg hk.1]
       split at hc
       ·rename_i m p e hbd
        simp only [Option.some.injEq,Prod.mk.injEq] at hc
        rw [←hc.2,look_cons]
        split
        ·rename_i hmk
         exfalso
         have hn:look hs m=none:=by
          unfold bindD at hbd
          split at hbd
          ·split at hbd
           ·rename_i hnw
            simp only [Option.some.injEq,Prod.mk.injEq] at hbd
            obtain ⟨rfl,_,_⟩:=hbd
            exact (newN_spec hnw).1
           ·simp at hbd
          ·simp at hbd
         subst hmk
         refine hk.2 (newNames_spec (x:=.arr false p) ?_ hn)
         rw [←hc.2,look_cons,if_pos rfl]
        ·exact hfz
       ·revert hc
        cases isNil ns||flat d with
        | true=>intro hc;simp at hc
        | false=>intro hc;simp only [cond_false,Option.some.injEq,Prod.mk.injEq] at hc;rw [←hc.2];exact hfz
      ·obtain ⟨g1,g2⟩:=hgo tm' h
       rw [g1]
       simp only [hm,cond_false,g2,hR]
       split at hc
       ·rename_i m p e hbd
        simp only [Option.some.injEq,Prod.mk.injEq] at hc
        simp only [map_kill_none,hc.2]
       ·rename_i hbd
        try simp only [hbd]
        revert hc
        cases isNil ns||flat d with
        | true=>intro hc;simp at hc
        | false =>
         intro hc
         simp only [cond_false,Option.some.injEq,Prod.mk.injEq] at hc
         simp only [cond_false,map_kill_none,hc.2]
  | _=>rw [hf] at hc;simp [Res.no] at hc
theorem writesW_move {tm:List (D α)} {hs h2:Obs α} {o:Oper} {l:List Nat×List Nat} (hw:writesW X tm hs h2 o=some l) {t1:List (D α)} {h1:Obs α} (hc:(evalOp X tm hs [] o).ch=some (t1,h1)) (he:h2=h1) :
  ∃ns,t1=tm.map (kill ns)∧(∀n,ns n=true→n∈l.1)∧(∀k,k ∉ l.1++l.2→look h1 k=(look hs k).map (killOb ns)) ∧
   ∀tm',(∀x∈o.op.operands,∀ks,evK X tm' ks x=evK X tm ks x)→evalOp X tm' hs [] o=⟨(evalOp X tm hs [] o).ok,(evalOp X tm hs [] o).d,some (tm'.map (kill ns),h1)⟩:=by
 unfold writesW at hw
 cases hi:isCall o with
 | true=>rw [hi] at hw;exact call_move hi hw hc he
 | false=>rw [hi] at hw;exact writes_move hw hc
variable {ops:Array Oper} {T:Nat→List (D α)} {H:Nat→Obs α} {W hb:Nat→Bool} {K:List Nat}
def Yet (X:Ctx α) (ops:Array Oper) (T:Nat→List (D α)) (H:Nat→Obs α) (i n:Nat):Prop :=
 ∀(j:Nat) o l,ops[j]?=some o→writesW X (T j) (H j) (H (j+1)) o=some l→n∈l.1++l.2→Pre ops j i
structure RunW (X:Ctx α) (K:List Nat) (ops:Array Oper) (W hb:Nat→Bool) (T:Nat→List (D α)) (H:Nat→Obs α):Prop where
 st:∀(i:Nat) o,ops[i]?=some o→AStep X ops i o (T i) (H i) (T (i+1)) (H (i+1)) (W i)
 guard:∀(i:Nat) o,ops[i]?=some o→o.guard=none
 wr:∀(i:Nat) o,ops[i]?=some o→∃l,writesW X (T i) (H i) (H (i+1)) o=some l∧∀n∈l.1,n∈K
 ho:∀(i:Nat) o,ops[i]?=some o→hb i=true→((pureOp o=true∨strSl X.P o=true∨freshOp X (T i) o=true)∨∃yet:Nat→Bool,(∀n,yet n=true→Yet X ops T H i n)∧readsOld X K yet (H 0) (T i) o=true) ∧
  (∀u∈tmpsOf ops o,(∃j,j < i∧hb j=true∧slotOf ops j=some u)∨((∀j,slotOf ops j≠some u)∧freeD K (getT (T 0) u)=true))∧freeD K (evalOp X (T i) (H i) [] o).d=true
 back:∀(j:Nat) o,ops[j]?=some o→∀e∈o.after,Region.binds .any e=true→e.on < j
 pair:∀(i j:Nat) oi oj,i < j→ops[i]?=some oi→ops[j]?=some oj→Pre ops j i∨((hb i=true∨hb j=true∨(W i=false∧W j=false))∧(∀d,oi.dst=some d→d ∉ tmpsOf ops oj)∧∀d,oj.dst=some d→d ∉ tmpsOf ops oi)
 fresh:∀(i k:Nat) oi ok,i≤k→ops[i]?=some oi→ops[k]?=some ok→∀d,ok.dst=some d→d∈tmpsOf ops oi→hb k=false∧Pre ops k i
theorem RunW.step (hC:RunW X K ops W hb T H) {i:Nat} {o:Oper} (ho:ops[i]?=some o):(evalOp X (T i) (H i) [] o).ok=true ∧
    ((W i=false∧(evalOp X (T i) (H i) [] o).ch=none∧T (i+1)=putT (T i) o.dst (evalOp X (T i) (H i) [] o).d∧H (i+1)=H i) ∨
     (W i=true∧∃ns,Sub K ns∧T (i+1)=putT ((T i).map (kill ns)) o.dst (evalOp X (T i) (H i) [] o).d∧(∃l,writesW X (T i) (H i) (H (i+1)) o=some l∧∀k,k ∉ l.1++l.2→look (H (i+1)) k=(look (H i) k).map (killOb ns)) ∧
       ∀tm',(∀x∈o.op.operands,∀ks,evK X tm' ks x=evK X (T i) ks x)→evalOp X tm' (H i) [] o=⟨true,(evalOp X (T i) (H i) [] o).d,some (tm'.map (kill ns),H (i+1))⟩)):=by
  have hg:=hC.guard i o ho
  have st:=hC.st i o ho
  have hok:=astep_ok st hg
  refine ⟨hok,?_⟩
  obtain ⟨l,hw,hlk⟩:=hC.wr i o ho
  have hnx:=astep_next st hg
  have hgd:∀q,guardD ops i (T i) o=some q→q=([],true):=by
    intro q hq
    unfold guardD at hq
    rw [hg] at hq
    simpa using hq.symm
  cases hc:(evalOp X (T i) (H i) [] o).ch with
  | none =>
    have hW:W i=false:=by
      generalize W i=b at st
      generalize T (i+1)=t1 at st
      generalize H (i+1)=h1 at st
      cases st with
      | quiet=>rfl
      | write q hq tm' hs' hc' h2 _=>have:=hgd q hq;subst this;rw [hc] at hc';simp at hc'
      | off q hq h2=>have:=hgd q hq;subst this;simp at h2
      | on=>rfl
    simp only [nextC,hc,Prod.mk.injEq] at hnx
    exact .inl ⟨hW,rfl,hnx.1.symm,hnx.2.symm⟩
  | some q =>
    obtain ⟨t1,h1⟩:=q
    have hW:W i=true:=by
      generalize W i=b at st
      generalize T (i+1)=t2 at st
      generalize H (i+1)=h2 at st
      cases st with
      | quiet q hq hc' _=>have:=hgd q hq;subst this;rw [hc] at hc';simp at hc'
      | write=>rfl
      | off q hq h2=>have:=hgd q hq;subst this;simp at h2
      | on q hq hc' _ _=>have:=hgd q hq;subst this;rw [hc] at hc';simp at hc'
    simp only [nextC,hc,Prod.mk.injEq] at hnx
    obtain ⟨n1,n2⟩:=hnx
    obtain ⟨ns,e1,e2,e3,e4⟩:=writesW_move hw hc n2.symm
    subst e1
    rw [n2] at e3 e4
    exact .inr ⟨hW,ns,fun n hn=>hlk n (e2 n hn),n1.symm,⟨l,hw,e3⟩,fun tm' h=>by rw [e4 tm' h,hok]⟩
theorem RunW.len (hC:RunW X K ops W hb T H):∀m,m≤ops.size→(T m).length=(T 0).length
 | 0,_=>rfl
 | m+1,hm=>by
  have ho:ops[m]?=some ops[m]:=by simp [show m < ops.size by omega]
  rcases (hC.step ho).2 with ⟨_,_,h,_⟩ | ⟨_,ns,_,h,_⟩
  ·rw [h,putT_length];exact hC.len m (by omega)
  ·rw [h,putT_length,List.length_map];exact hC.len m (by omega)
theorem RunW.stab (hC:RunW X K ops W hb T H) {b t:Nat} (hf:freeD K (getT (T b) t)=true):∀m,b+m≤ops.size→(∀k,b≤k→k < b+m→slotOf ops k≠some t)→getT (T (b+m)) t=getT (T b) t
 | 0,_,_=>rfl
 | m+1,hm,hs=>by
  have ih:=hC.stab hf m (by omega) fun k h1 h2=>hs k h1 (by omega)
  have ho:ops[b+m]?=some ops[b+m]:=by simp [show b+m < ops.size by omega]
  have hne:∀(tm:List (D α)) x,getT (putT tm (ops[b+m]).dst x) t=getT tm t:=by
   intro tm x
   rw [getT_put,if_neg (fun h=>hs (b+m) (by omega) (by omega) (by rw [slot_dst ho];exact h.1))]
  rw [show b+(m+1)=b+m+1 by omega]
  rcases (hC.step ho).2 with ⟨_,_,h,_⟩ | ⟨_,ns,hn,h,_⟩
  ·rw [h,hne];exact ih
  ·rw [h,hne,getT_map _ (by simp [kill]),ih]
   exact kill_free hn _ hf
theorem RunW.stab' (hC:RunW X K ops W hb T H) {b c t:Nat} (hf:freeD K (getT (T b) t)=true) (hbc:b≤c) (hc:c≤ops.size) (hs:∀k,b≤k→k < c→slotOf ops k≠some t):getT (T c) t=getT (T b) t:=by
 obtain ⟨m,rfl⟩:=Nat.exists_eq_add_of_le hbc
 exact hC.stab hf m hc hs
theorem pre_lt (hback:∀(j:Nat) o,ops[j]?=some o→∀e∈o.after,Region.binds .any e=true→e.on < j):∀(n j i:Nat),j≤n→j < ops.size→Pre ops j i→i < j:=by
 intro n
 induction n with
 | zero =>
  intro j i hj hs h
  obtain rfl:j=0:=by omega
  obtain ⟨e,he,hb,_⟩:=pre_spec (show ops[0]?=some ops[0] by simp [hs]) h
  have:=hback 0 _ (by simp [hs]) e he hb
  omega
 | succ n ih =>
  intro j i hj hs h
  obtain ⟨e,he,hb,h1⟩:=pre_spec (show ops[j]?=some ops[j] by simp [hs]) h
  have:=hback j _ (by simp [hs]) e he hb
  rcases h1 with rfl | h1
  ·exact this
  ·have:=ih e.on i (by omega) (by omega) h1
   omega
theorem Pre.lt (hC:RunW X K ops W hb T H) {i j:Nat} (h:Pre ops j i) (hj:j < ops.size):i < j:=pre_lt hC.back j j i (Nat.le_refl _) hj h
theorem RunW.obj (hC:RunW X K ops W hb T H) {n:Nat} {ob:Ob α} (h0:look (H 0) n=some ob) (hf:freeOb K ob=true):∀m,m≤ops.size→(∀(j:Nat) o l,j < m→ops[j]?=some o→writesW X (T j) (H j) (H (j+1)) o=some l→n ∉ l.1++l.2)→look (H m) n=some ob
 | 0,_,_=>h0
 | m+1,hm,hn=>by
  have ih:=hC.obj h0 hf m (by omega) fun j o l hj=>hn j o l (by omega)
  have ho:ops[m]?=some ops[m]:=by simp [show m < ops.size by omega]
  rcases (hC.step ho).2 with ⟨_,_,_,h⟩ | ⟨_,ns,hs,_,⟨l,hw,h⟩,_⟩
  ·rw [h];exact ih
  ·rw [h n (hn m _ l (by omega) ho hw),ih]
   simp [killOb_free hs hf]
theorem RunW.still (hC:RunW X K ops W hb T H) {b c:Nat} (hbc:b≤c) (hc:c≤ops.size) (hW:∀i,b≤i→i < c→W i=false):H c=H b∧∀t,(∀i,b≤i→i < c→slotOf ops i≠some t)→getT (T c) t=getT (T b) t:=by
 obtain ⟨m,rfl⟩:=Nat.exists_eq_add_of_le hbc
 obtain ⟨h1,_,h3⟩:=quiet_run (X:=X) hC.st b m hc hW
 exact ⟨h1,h3⟩
theorem conv_hs (s t:TypeId) {x:D α} (h:closed x=true) (hs hs':Obs α):convD X hs s t x=convD X hs' s t x∧(convD X hs' s t x).ch=none:=by
 refine ⟨?_,convD_ch _ _ _⟩
 unfold convD
 split<;>try rfl
 split<;>first | rfl | (simp [closed] at h;done)
theorem built_hs (t:TypeId) (n:Nat) (ps:List (Nat×D α)) (h:closedL (ps.map (·.2))=true) (hs hs':Obs α) (tm tm':List (D α)):buildSliceD X hs tm t n ps=buildSliceD X hs' tm' t n ps∧(buildSliceD X hs' tm' t n ps).ch=none:=by
 have key:∀(l:List (D α)),closedL l=true→lendAll X.C hs l=lendAll X.C hs' l∧∀x ns,lendAll X.C hs' l=some (x,ns)→ns=[]:=by
  intro l
  induction l with
  | nil=>intro _;exact ⟨rfl,fun x ns h=>by simp only [lendAll,Option.some.injEq,Prod.mk.injEq] at h;exact h.2.symm⟩
  | cons d r ih =>
   intro hc
   simp only [closedL,Bool.and_eq_true] at hc
   obtain ⟨e1,e2⟩:=(lend_cl X.C hs' hs 40).1 d hc.1
   obtain ⟨f1,f2⟩:=ih hc.2
   simp only [lendAll]
   rw [e1,f1]
   refine ⟨rfl,fun x ns hx=>?_⟩
   split at hx
   ·rename_i a b q q' h1 h2
    simp only [Option.some.injEq,Prod.mk.injEq] at hx
    have g1:=e2 _ _ h1
    have g2:=f2 _ _ h2
    subst g1 g2
    exact hx.2.symm
   ·simp at hx
 obtain ⟨k1,k2⟩:=key _ h
 unfold buildSliceD
 rw [k1]
 rcases hl:lendAll X.C hs' (ps.map (·.2)) with _ | ⟨ds,ns⟩
 ·simp only [hl]
  constructor
  all_goals repeat' (first | rfl | split)
  all_goals simp_all
 ·obtain rfl:=k2 _ _ hl
  simp only [hl,isNil,cond_true]
  constructor
  all_goals repeat' (first | rfl | split)
  all_goals simp_all
theorem RunW.quietHo (hC:RunW X K ops W hb T H) {i:Nat} {o:Oper} (ho:ops[i]?=some o) (hi:hb i=true) {hs:Obs α} (hobj:∀n ob,Yet X ops T H i n→look (H 0) n=some ob→freeOb K ob=true→look hs n=some ob) {tm:List (D α)}
  (hag:∀x∈o.op.operands,∀ks,evK X tm ks x=evK X (T i) ks x):evalOp X tm hs [] o=evalOp X (T i) (H i) [] o∧(evalOp X (T i) (H i) [] o).ch=none:=by
 have hin:i < ops.size:=by
  rcases Nat.lt_or_ge i ops.size with h | h
  ·exact h
  ·simp [Array.getElem?_eq_none h] at ho
 have h:=(hC.ho i o ho hi).1
 rcases h with (h | h | h) | h
 ·have h2:=(pure_hs (X:=X) (tm:=T i) (hs:=H i) h []).2
  refine ⟨((pure_hs (X:=X) (tm:=tm) (hs:=H i) h []).1 hs).trans ?_,h2⟩
  rcases evalOp_on (X:=X) (tm:=T i) (hs:=H i) o [] with ⟨ns,hs1,h1⟩ | ⟨_,h1⟩
  ·rw [h2] at h1;simp at h1
  ·exact h1 tm hag
 ·obtain ⟨dst,op,type,pos,after,guard⟩:=o
  unfold strSl at h
  cases op<;>try (simp at h;done)
  rename_i t x l r m
  simp only at h
  have gl:l.map (evK X tm [])=l.map (evK X (T i) []):=by
   cases l with
   | none=>rfl
   | some y=>exact congrArg some (hag y (by simp [Op.operands]) [])
  have gr:r.map (evK X tm [])=r.map (evK X (T i) []):=by
   cases r with
   | none=>rfl
   | some y=>exact congrArg some (hag y (by simp [Op.operands]) [])
  have gm:m.map (evK X tm [])=m.map (evK X (T i) []):=by
   cases m with
   | none=>rfl
   | some y=>exact congrArg some (hag y (by simp [Op.operands]) [])
  simp only [evalOp]
  rw [hag x (by simp [Op.operands]) [],gl,gr,gm]
  exact ⟨(slice_hs h _ _ _ _ _ _ _ _).1,(slice_hs h (H i) (H i) (T i) (T i) _ _ _ _).2⟩
 ·obtain ⟨dst,op,type,pos,after,guard⟩:=o
  unfold freshOp at h
  cases op<;>try (simp at h;done)
  case buildSlice t n ps =>
   simp only at h
   have hp:(ps.toList.map fun x=>(x.1,evK X tm [] x.2))=ps.toList.map fun x=>(x.1,evK X (T i) [] x.2):=by
    refine List.map_congr_left fun x hx=>?_
    rw [hag x.2 (by simpa [Op.operands] using ⟨x.1,Array.mem_toList_iff.1 hx⟩) []]
   simp only [evalOp]
   rw [hp]
   refine built_hs _ _ _ (by simpa only [List.map_map,Function.comp_def] using h) _ _ _ _
  case convert s t x =>
   simp only at h
   simp only [evalOp]
   rw [hag x (by simp [Op.operands]) []]
   exact conv_hs _ _ h _ _
  case indexAddr t x ix =>
   simp only at h
   simp only [evalOp]
   rw [hag x (by simp [Op.operands]) [],hag ix (by simp [Op.operands]) []]
   exact ⟨index_hs h _ _ _ _,indexAddrD_ch _ _ _⟩
  case slice t x l r m =>
   simp only at h
   have gl:l.map (evK X tm [])=l.map (evK X (T i) []):=by
    cases l with
    | none=>rfl
    | some y=>exact congrArg some (hag y (by simp [Op.operands]) [])
   have gr:r.map (evK X tm [])=r.map (evK X (T i) []):=by
    cases r with
    | none=>rfl
    | some y=>exact congrArg some (hag y (by simp [Op.operands]) [])
   have gm:m.map (evK X tm [])=m.map (evK X (T i) []):=by
    cases m with
    | none=>rfl
    | some y=>exact congrArg some (hag y (by simp [Op.operands]) [])
   simp only [evalOp]
   rw [hag x (by simp [Op.operands]) [],gl,gr,gm]
   exact ⟨(slice_ok h _ _ _ _ _ _ _).1,(slice_ok h (H i) (H i) (T i) (T i) _ _ _).2⟩
 ·obtain ⟨yet,hyet,h⟩:=h
  obtain ⟨dst,op,type,pos,after,guard⟩:=o
  unfold readsOld at h
  cases op<;>try (simp at h;done)
  rename_i t a
  simp only at h
  have ha:=hag a (by simp [Op.operands]) []
  simp only [evalOp]
  rw [ha]
  have hch:∀hs:Obs α,((match cellsAt X.C hs (evK X (T i) [] a) with
    | some (cs,off)=>Res.o (loadD X.P t cs off)
    | none=>Res.no:Res α)).ch=none:=by
   intro hs
   split
   ·exact Res.o_ch _
   ·rfl
  refine ⟨?_,hch (H i)⟩
  cases hA:evK X (T i) [] a<;>rw [hA] at h<;>simp only [Bool.and_eq_true,Bool.false_eq_true] at h
  ·rename_i n off
   obtain ⟨h1,h2⟩:=h
   have hn:=hyet n h1
   split at h2
   ·rename_i fz cs hl
    have e1:=hobj n _ hn hl h2
    have e2:=hC.obj hl h2 i (by omega) fun j oj l hj hoj hw hm=>by
     have:=Pre.lt hC (hn j oj l hoj hw hm) (by omega)
     omega
    simp only [cellsAt,e1,e2]
   ·simp at h2
  ·rfl
structure WInv (ops:Array Oper) (W hb:Nat→Bool) (T:Nat→List (D α)) (H:Nat→Obs α) (L:Nat→Prop) (b:Nat) (tm:List (D α)) (hs:Obs α):Prop where
 le:b≤ops.size
 pre:∀i,i < b→hb i=false→L i
 quiet:∀i,b≤i→L i→hb i=false→W i=false
 hs:hs=H b
 len:tm.length=(T 0).length
 doneH:∀i t,L i→hb i=true→slotOf ops i=some t→getT tm t=getT (T (i+1)) t
 doneQ:∀i t,L i→hb i=false→slotOf ops i=some t→getT tm t=getT (T (max b (i+1))) t
 rest:∀t,(∀i,slotOf ops i=some t→hb i=false∧¬ L i)→getT tm t=getT (T b) t
theorem RunW.hoW (hC:RunW X K ops W hb T H) {i:Nat} (hi:hb i=true) (hin:i < ops.size):W i=false:=by
 have ho:ops[i]?=some ops[i]:=by simp [hin]
 have h1:=(hC.quietHo ho hi (hs:=H i) (fun n ob hn h0 hf=>hC.obj h0 hf i (by omega) fun j oj l hj hoj hw hm=>by have:=Pre.lt hC (hn j oj l hoj hw hm) (by omega);omega) (tm:=T i) (fun _ _ _=>rfl)).2
 rcases (hC.step ho).2 with ⟨h,_⟩ | ⟨_,ns,_,_,_,h⟩
 ·exact h
 ·have:=h (T i) (fun _ _ _=>rfl)
  rw [this] at h1;simp at h1
theorem hoist_no (hC:RunW X K ops W hb T H) {j n:Nat} {oj:Oper} {l:List Nat×List Nat} (hbj:hb j=true) (hoj:ops[j]?=some oj) (hw:writesW X (T j) (H j) (H (j+1)) oj=some l) (hm:n∈l.1++l.2):False:=by
 have hin:j < ops.size:=by
  rcases Nat.lt_or_ge j ops.size with h | h
  ·exact h
  ·simp [Array.getElem?_eq_none h] at hoj
 have h1:=(hC.quietHo hoj hbj (hs:=H j) (fun n ob hn h0 hf=>hC.obj h0 hf j (by omega) fun j' oj l hj hoj hw hm=>by have:=Pre.lt hC (hn j' oj l hoj hw hm) (by omega);omega) (tm:=T j) (fun _ _ _=>rfl)).2
 have hcl:isCall oj=false:=by
  have h:=(hC.ho j oj hoj hbj).1
  obtain ⟨dst,op,type,pos,after,guard⟩:=oj
  cases op<;>try rfl
  rename_i c
  obtain ⟨callee,args,argTypes⟩:=c
  rcases h with (h | h | h) | ⟨yet,_,h⟩
  ·simp [pureOp] at h
  ·simp [strSl] at h
  ·simp [freshOp] at h
  ·simp [readsOld] at h
 unfold writesW writesOf at hw
 rw [hcl,h1] at hw
 simp only [cond_false,Option.some.injEq] at hw
 subst hw
 simp at hm
theorem RunW.freeSlot (hC:RunW X K ops W hb T H) {i t:Nat} (hi:hb i=true) (hin:i < ops.size) (hs:slotOf ops i=some t):freeD K (getT (T (i+1)) t)=true:=by
 have ho:ops[i]?=some ops[i]:=by simp [hin]
 have hf:=(hC.ho i _ ho hi).2.2
 rcases (hC.step ho).2 with ⟨_,_,h,_⟩ | ⟨h,_⟩
 ·rw [h,getT_put]
  split
  ·exact hf
  ·rename_i hn
   rw [slot_dst ho] at hs
   rw [getT_out _ _ (by
    rcases Nat.lt_or_ge t (T i).length with h' | h'
    ·exact absurd ⟨hs,h'⟩ hn
    ·exact h')]
   rfl
 ·rw [hC.hoW hi hin] at h;simp at h
theorem WInv.step (hC:RunW X K ops W hb T H) (hdis:∀(i j:Nat) s,slotOf ops i=some s→slotOf ops j=some s→i=j) {L:Nat→Prop} {b:Nat} {tm:List (D α)} {hs:Obs α} (hI:WInv ops W hb T H L b tm hs)
  (hdown:∀j,L j→∀i,Pre ops j i→L i) (hLn:∀j,L j→j < ops.size) {i:Nat} {o:Oper} (ho:ops[i]?=some o) (hiL:¬ L i) (hpre:∀j,Pre ops i j→L j) :
  ∃W' b' tm1 hs1,AStep X ops i o tm hs tm1 hs1 W'∧WInv ops W hb T H (fun j=>L j∨j=i) b' tm1 hs1:=by
 have hin:i < ops.size:=by
  rcases Nat.lt_or_ge i ops.size with h | h
  ·exact h
  ·simp [Array.getElem?_eq_none h] at ho
 have hget:∀j,j < ops.size→∃oj,ops[j]?=some oj:=fun j hj=>⟨ops[j],by simp [hj]⟩
 have hslot:∀j t,slotOf ops j=some t→j < ops.size:=by
  intro j t h
  unfold slotOf at h
  rcases Nat.lt_or_ge j ops.size with h' | h'
  ·exact h'
  ·simp [Array.getElem?_eq_none h'] at h
 have hgd:guardD ops i tm o=some ([],true):=by unfold guardD;rw [hC.guard i o ho]
 have hopd:(∀u∈tmpsOf ops o,getT tm u=getT (T i) u)→∀x∈o.op.operands,∀ks,evK X tm ks x=evK X (T i) ks x:=by
  intro hag x hx ks'
  refine evK_congr (fun t ht=>hag t ?_) ks'
  subst ht
  simp only [tmpsOf,List.mem_append,List.mem_filterMap]
  exact .inl ⟨.tmp t,by simpa using hx,rfl⟩
 have hdep:∀j u,j < i→u∈tmpsOf ops o→slotOf ops j=some u→L j:=by
  intro j u hj hu hs'
  obtain ⟨oj,hoj⟩:=hget j (by omega)
  rcases hC.pair j i oj o hj hoj ho with h | ⟨_,h,_⟩
  ·exact hpre j h
  ·exact absurd hu (h u (by rw [←slot_dst hoj];exact hs'))
 have hquiet:∀{tm1:List (D α)} {v:D α},tm1=putT tm o.dst v→(hb i=true→T (i+1)=putT (T i) o.dst v)→(hb i=false→b≤i∧T (i+1)=putT (T i) o.dst v∧W i=false)→WInv ops W hb T H (fun j=>L j∨j=i) b tm1 hs:=by
  intro tm1 v e hH hQ
  have hput:T (i+1)=putT (T i) o.dst v→∀t,slotOf ops i=some t→getT (putT tm o.dst v) t=getT (T (i+1)) t:=by
   intro hT t ht
   rw [slot_dst ho] at ht
   rw [hT,getT_put,getT_put,hI.len,hC.len i (by omega)]
   by_cases h:t < (T 0).length
   ·rw [if_pos ⟨ht,h⟩,if_pos ⟨ht,h⟩]
   ·rw [if_neg (fun h'=>h h'.2),if_neg (fun h'=>h h'.2),getT_out _ _ (by rw [hI.len];omega),getT_out _ _ (by rw [hC.len i (by omega)];omega)]
  have hne:∀j t,L j→slotOf ops j=some t→getT (putT tm o.dst v) t=getT tm t:=by
   intro j t hL ht
   rw [getT_put,if_neg]
   rintro ⟨h,_⟩
   have:=hdis i j t (by rw [slot_dst ho];exact h) ht
   subst this
   exact hiL hL
  subst e
  refine ⟨hI.le,fun j hj h=>.inl (hI.pre j hj h),fun j hj hL h=>?_,hI.hs,by rw [putT_length];exact hI.len,fun j t hL h ht=>?_,fun j t hL h ht=>?_,fun t ht=>?_⟩
  ·rcases hL with hL | rfl
   ·exact hI.quiet j hj hL h
   ·exact (hQ h).2.2
  ·rcases hL with hL | rfl
   ·rw [hne j t hL ht];exact hI.doneH j t hL h ht
   ·exact hput (hH h) t ht
  ·rcases hL with hL | rfl
   ·rw [hne j t hL ht];exact hI.doneQ j t hL h ht
   ·obtain ⟨q1,q2,_⟩:=hQ h
    rw [show max b (j+1)=j+1 by omega]
    exact hput q2 t ht
  ·rw [getT_put,if_neg (fun h=>(ht i (by rw [slot_dst ho];exact h.1)).2 (.inr rfl))]
   exact hI.rest t fun k hk=>⟨(ht k hk).1,fun hL=>(ht k hk).2 (.inl hL)⟩
 cases hi:hb i with
 | true =>
  obtain ⟨_,hops,_⟩:=hC.ho i o ho hi
  have hag:∀u∈tmpsOf ops o,getT tm u=getT (T i) u:=by
   intro u hu
   rcases hops u hu with ⟨j,hj,hbj,hs'⟩ | ⟨hno,hf⟩
   ·rw [hI.doneH j u (hdep j u hj hu hs') hbj hs']
    exact (hC.stab' (hC.freeSlot hbj (by omega) hs') (by omega) (by omega) fun k hk hk' h=>by have:=hdis j k u hs' h;omega).symm
   ·rw [hI.rest u (fun k hk=>absurd hk (hno k)),hC.stab' hf (Nat.zero_le _) hI.le (fun k _ _=>hno k),hC.stab' hf (Nat.zero_le i) (by omega) (fun k _ _=>hno k)]
  obtain ⟨he,hch⟩:=hC.quietHo ho hi (hs:=hs) (fun n ob hn h0 hf=>by
   rw [hI.hs]
   refine hC.obj h0 hf b hI.le fun j oj l hj hoj hw hm=>?_
   have hp:=hn j oj l hoj hw hm
   cases hbj:hb j with
   | false=>exact hiL (hdown j (hI.pre j hj hbj) i hp)
   | true=>exact hoist_no hC hbj hoj hw hm) (hopd hag)
  obtain ⟨hok,hst⟩:=hC.step ho
  have hT:T (i+1)=putT (T i) o.dst (evalOp X (T i) (H i) [] o).d:=by
   rcases hst with ⟨_,_,h,_⟩ | ⟨h,_⟩
   ·exact h
   ·rw [hC.hoW hi hin] at h;simp at h
  refine ⟨false,b,_,_,.on ([],true) hgd (by rw [he];exact hch) rfl (by rw [he];exact hok),hquiet (by rw [he]) (fun _=>hT) (fun h=>by rw [hi] at h;simp at h)⟩
 | false =>
  have hbi:b≤i:=by
   rcases Nat.lt_or_ge i b with h | h
   ·exact absurd (hI.pre i h hi) hiL
   ·exact h
  have hWb:∀j,b≤j→j < i→W j=false:=by
   intro j hb' hj
   cases hw:W j with
   | false=>rfl
   | true =>
    obtain ⟨oj,hoj⟩:=hget j (by omega)
    have hbj:hb j=false:=by
     cases h:hb j with
     | false=>rfl
     | true=>rw [hC.hoW h (by omega)] at hw;simp at hw
    rcases hC.pair j i oj o hj hoj ho with h | ⟨h | h | h,_⟩
    ·have:=hI.quiet j hb' (hpre j h) hbj;rw [hw] at this;exact this
    ·rw [hbj] at h;simp at h
    ·rw [hi] at h;simp at h
    ·rw [hw] at h;simp at h
  obtain ⟨hHi,hTi⟩:=hC.still hbi (by omega) hWb
  have hQslot:∀j u,j < i→L j→hb j=false→slotOf ops j=some u→getT tm u=getT (T i) u:=by
   intro j u hj hL hbj hs'
   rw [hI.doneQ j u hL hbj hs']
   refine ((hC.still (b:=max b (j+1)) (c:=i) (by omega) (by omega) (fun k h1 h2=>hWb k (by omega) h2)).2 u fun k h1 h2 h=>?_).symm
   have:=hdis j k u hs' h
   omega
  have hag:∀u∈tmpsOf ops o,getT tm u=getT (T i) u:=by
   intro u hu
   by_cases h:∃j,slotOf ops j=some u
   ·obtain ⟨j,hs'⟩:=h
    have hjn:=hslot j u hs'
    rcases Nat.lt_or_ge j i with hj | hj
    ·have hL:=hdep j u hj hu hs'
     cases hbj:hb j with
     | true =>
      rw [hI.doneH j u hL hbj hs']
      exact (hC.stab' (hC.freeSlot hbj hjn hs') (by omega) (by omega) fun k hk hk' h=>by have:=hdis j k u hs' h;omega).symm
     | false=>exact hQslot j u hj hL hbj hs'
    ·obtain ⟨oj,hoj⟩:=hget j hjn
     obtain ⟨hbj,hpj⟩:=hC.fresh i j o oj hj ho hoj u (by rw [←slot_dst hoj];exact hs') hu
     rw [hI.rest u fun k hk=>by
      obtain rfl:=hdis k j u hk hs'
      exact ⟨hbj,fun hL=>hiL (hdown k hL i hpj)⟩,hTi u fun k _ h2 hk=>by have:=hdis k j u hk hs';omega]
   ·have hno:∀k,slotOf ops k≠some u:=fun k hk=>h ⟨k,hk⟩
    rw [hI.rest u (fun k hk=>absurd hk (hno k)),hTi u fun k _ _=>hno k]
  have hev:=hopd hag
  have hhs:hs=H i:=hI.hs.trans hHi.symm
  obtain ⟨hok,hst⟩:=hC.step ho
  rcases hst with ⟨hWi,hch,hT,hH⟩ | ⟨hWi,ns,hn,hT,_,hmv⟩
  ·have he:evalOp X tm hs [] o=evalOp X (T i) (H i) [] o:=by
    rw [hhs]
    rcases evalOp_on (X:=X) (tm:=T i) (hs:=H i) o [] with ⟨ns,hs1,h1⟩ | ⟨_,h1⟩
    ·rw [hch] at h1;simp at h1
    ·exact h1 tm hev
   exact ⟨false,b,_,_,.on ([],true) hgd (by rw [he];exact hch) rfl (by rw [he];exact hok),hquiet (by rw [he]) (fun h=>by rw [hi] at h;simp at h) (fun _=>⟨hbi,hT,hWi⟩)⟩
  ·have he:=hmv tm hev
   rw [←hhs] at he
   refine ⟨true,i+1,_,_,.write ([],true) hgd (tm.map (kill ns)) (H (i+1)) (by rw [he]) rfl (by rw [he]),?_⟩
   rw [he]
   have hne:∀j t x,L j→slotOf ops j=some t→getT (putT (tm.map (kill ns)) o.dst x) t=kill ns (getT tm t):=by
    intro j t x hL ht
    rw [getT_put,if_neg,getT_map _ (by simp [kill])]
    rintro ⟨h,_⟩
    have:=hdis i j t (by rw [slot_dst ho];exact h) ht
    subst this
    exact hiL hL
   have hlt:∀j,L j→hb j=false→j < i:=by
    intro j hL hbj
    rcases Nat.lt_trichotomy j i with h | h | h
    ·exact h
    ·subst h;exact absurd hL hiL
    ·obtain ⟨oj,hoj⟩:=hget j (hLn j hL)
     rcases hC.pair i j o oj h ho hoj with h' | ⟨h' | h' | h',_⟩
     ·exact absurd (hdown j hL i h') hiL
     ·rw [hi] at h';simp at h'
     ·rw [hbj] at h';simp at h'
     ·rw [hWi] at h';simp at h'
   refine ⟨by omega,fun j hj hbj=>?_,fun j hj hL hbj=>?_,rfl,by rw [putT_length,List.length_map];exact hI.len,fun j t hL hbj ht=>?_,fun j t hL hbj ht=>?_,fun t ht=>?_⟩
   ·rcases Nat.lt_or_ge j i with h | h
    ·obtain ⟨oj,hoj⟩:=hget j (by omega)
     rcases hC.pair j i oj o h hoj ho with h' | ⟨h' | h' | h',_⟩
     ·exact .inl (hpre j h')
     ·rw [hbj] at h';simp at h'
     ·rw [hi] at h';simp at h'
     ·rw [hWi] at h';simp at h'
    ·exact .inr (by omega)
   ·rcases hL with hL | rfl
    ·have:=hlt j hL hbj;omega
    ·omega
   ·rcases hL with hL | rfl
    ·rw [hne j t _ hL ht,hI.doneH j t hL hbj ht]
     exact kill_free hn _ (hC.freeSlot hbj (hLn j hL) ht)
    ·rw [hi] at hbj;simp at hbj
   ·rcases hL with hL | rfl
    ·have hji:=hlt j hL hbj
     rw [hne j t _ hL ht,hQslot j t hji hL hbj ht,show max (i+1) (j+1)=i+1 by omega,hT,getT_put,if_neg,getT_map _ (by simp [kill])]
     rintro ⟨h,_⟩
     have:=hdis i j t (by rw [slot_dst ho];exact h) ht
     omega
    ·rw [show max (j+1) (j+1)=j+1 by omega,hT,getT_put,getT_put]
     simp only [List.length_map]
     rw [hI.len,hC.len j (by omega)]
     rw [slot_dst ho] at ht
     by_cases h:t < (T 0).length
     ·rw [if_pos ⟨ht,h⟩,if_pos ⟨ht,h⟩,hhs]
     ·rw [if_neg (fun h'=>h h'.2),if_neg (fun h'=>h h'.2),getT_out _ _ (by rw [List.length_map,hI.len];omega),getT_out _ _ (by rw [List.length_map,hC.len j (by omega)];omega)]
   ·have hno:¬ (o.dst=some t):=fun h=>(ht i (by rw [slot_dst ho];exact h)).2 (.inr rfl)
    have hin':∀k,k < i→hb k=false→L k:=by
     intro k hk hbk
     obtain ⟨ok,hok'⟩:=hget k (by omega)
     rcases hC.pair k i ok o hk hok' ho with h' | ⟨h' | h' | h',_⟩
     ·exact hpre k h'
     ·rw [hbk] at h';simp at h'
     ·rw [hi] at h';simp at h'
     ·rw [hWi] at h';simp at h'
    rw [hT,getT_put,if_neg (fun h=>hno h.1),getT_put,if_neg (fun h=>hno h.1),getT_map _ (by simp [kill]),getT_map _ (by simp [kill]),hI.rest t (fun k hk=>⟨(ht k hk).1,fun hL=>(ht k hk).2 (.inl hL)⟩),
     hTi t fun k _ h2 hk=>(ht k hk).2 (.inl (hin' k h2 (ht k hk).1))]
theorem WInv.fin (hC:RunW X K ops W hb T H) (hdis:∀(i j:Nat) s,slotOf ops i=some s→slotOf ops j=some s→i=j) {L:Nat→Prop} {b:Nat} {tm:List (D α)} {hs:Obs α} (hI:WInv ops W hb T H L b tm hs) (hall:∀i,i < ops.size→L i) :
  tm=T ops.size∧∀k,look hs k=look (H ops.size) k:=by
 have hWq:∀i,b≤i→i < ops.size→W i=false:=by
  intro i h1 h2
  cases h:hb i with
  | true=>exact hC.hoW h h2
  | false=>exact hI.quiet i h1 (hall i h2) h
 obtain ⟨hH,hT⟩:=hC.still hI.le (Nat.le_refl _) hWq
 refine ⟨ext_getT (hI.len.trans (hC.len _ (Nat.le_refl _)).symm) fun t=>?_,fun k=>by rw [hI.hs,hH]⟩
 by_cases h:∃j,slotOf ops j=some t
 ·obtain ⟨j,hs'⟩:=h
  have hj:j < ops.size:=by
   unfold slotOf at hs'
   rcases Nat.lt_or_ge j ops.size with h' | h'
   ·exact h'
   ·simp [Array.getElem?_eq_none h'] at hs'
  cases hbj:hb j with
  | true =>
   rw [hI.doneH j t (hall j hj) hbj hs']
   exact (hC.stab' (hC.freeSlot hbj hj hs') (by omega) (Nat.le_refl _) fun k hk hk' h=>by have:=hdis j k t hs' h;omega).symm
  | false =>
   rw [hI.doneQ j t (hall j hj) hbj hs']
   refine ((hC.still (b:=max b (j+1)) (c:=ops.size) (by have:=hI.le;omega) (Nat.le_refl _) (fun k h1 h2=>hWq k (by omega) h2)).2 t fun k h1 h2 h=>?_).symm
   have:=hdis j k t hs' h
   omega
 ·have hno:∀k,slotOf ops k≠some t:=fun k hk=>h ⟨k,hk⟩
  rw [hI.rest t (fun k hk=>absurd hk (hno k)),hT t fun k _ _=>hno k]
theorem runW_spec:∀(l:List (Oper×(List (D α)×Obs α)×(List (D α)×Obs α))) (wl:List (List Nat×List Nat)),runW X l=some wl →
  ∀(i:Nat) o s s',l[i]?=some (o,s,s')→o.guard=none∧∃m,writesW X s.1 s.2 s'.2 o=some m∧wl[i]?=some m∧∀n∈m.1,n∈keysW wl
 | [],wl,_,i,o,s,s',h=>by simp at h
 | (o,s,s')::r,wl,h,i,o',t,t',ho=>by
  simp only [runW,Bool.cond_eq_ite] at h
  split at h
  ·rename_i hc
   simp only [Option.isNone_iff_eq_none] at hc
   split at h
   ·simp at h
   ·rename_i m hm
    split at h
    ·rename_i m' hm'
     simp only [Option.some.injEq] at h
     subst h
     cases i with
     | zero =>
      simp only [List.getElem?_cons_zero,Option.some.injEq,Prod.mk.injEq] at ho
      obtain ⟨rfl,rfl,rfl⟩:=ho
      exact ⟨hc,m,hm,rfl,fun n hn=>List.mem_append_left _ hn⟩
     | succ i =>
      obtain ⟨g1,m2,g2,g3,g4⟩:=runW_spec r m' hm' i o' t t' (by simpa using ho)
      exact ⟨g1,m2,g2,by simpa using g3,fun n hn=>List.mem_append_right _ (g4 n hn)⟩
    ·simp at h
  ·simp at h
theorem walkW_spec {K sl:List Nat} {yet:Nat→Nat→Bool} {tm0:List (D α)} {hs0:Obs α}:∀(l:List (Oper×(List (D α)×Obs α)×(List (D α)×Obs α))) (k:Nat) (hsl:List Nat),
  ∀(i:Nat) o s s',l[i]?=some (o,s,s')→(walkW X ops K yet sl tm0 hs0 k hsl l)[i]?=some true→∃hsl',hoistOk X ops K (yet (k+i)) sl tm0 hs0 hsl' s.1 s.2 o=true ∧
   ∀u∈hsl',u∈hsl∨∃j oj t t',j < i∧(walkW X ops K yet sl tm0 hs0 k hsl l)[j]?=some true∧l[j]?=some (oj,t,t')∧oj.dst=some u
 | [],k,hsl,i,o,s,s',h,_=>by simp at h
 | (o,s,s')::r,k,hsl,i,o',t,t',ho,hw=>by
  simp only [walkW] at hw ⊢
  cases i with
  | zero =>
   simp only [List.getElem?_cons_zero,Option.some.injEq,Prod.mk.injEq] at ho hw
   obtain ⟨rfl,rfl,rfl⟩:=ho
   exact ⟨hsl,hw,fun u hu=>.inl hu⟩
  | succ i =>
   simp only [List.getElem?_cons_succ] at ho hw
   obtain ⟨hsl',g1,g2⟩:=walkW_spec r (k+1) _ i o' t t' ho hw
   rw [show k+1+i=k+(i+1) by omega] at g1
   refine ⟨hsl',g1,fun u hu=>?_⟩
   rcases g2 u hu with h | ⟨j,oj,q,q',j1,j2,j3,j4⟩
   ·cases hh:hoistOk X ops K (yet k) sl tm0 hs0 hsl s.1 s.2 o with
    | false=>rw [hh] at h;exact .inl h
    | true =>
     rw [hh] at h
     simp only [cond_true] at h
     cases hd:o.dst with
     | none=>rw [hd] at h;exact .inl h
     | some d =>
      rw [hd] at h
      rcases List.mem_cons.1 h with rfl | h
      ·exact .inr ⟨0,o,s,s',by omega,by simp,rfl,hd⟩
      ·exact .inl h
   ·exact .inr ⟨j+1,oj,q,q',by omega,by simpa using j2,by simpa using j3,j4⟩
theorem drawW_spec {ws:List Nat} {lg:List (List (D α)×Obs α)} (hst:∀(i:Nat) o,ops[i]?=some o→AStep X ops i o (T i) (H i) (T (i+1)) (H (i+1)) (W i)) (hW:∀i,i < ops.size→W i=true→memN ws i=true)
    (hlg:∀j,j < ops.size→lg[j]?=some (T (j+1),H (j+1))) (h:drawW X ops ws lg (T 0) (H 0)=true):∃K hb,RunW X K ops W hb T H:=by
  unfold drawW at h
  simp only at h
  have hsteps:∀(i:Nat) o,ops[i]?=some o→(stepsW ops.toList (T 0,H 0) lg)[i]?=some (o,(T i,H i),(T (i+1),H (i+1))):=by
    intro i o ho
    have:=stepsW_get (T:=T) (H:=H) ops.toList 0 lg (fun j hj=>by rw [Nat.zero_add];exact hlg j (by simpa using hj)) i o (by simpa using ho)
    simpa using this
  generalize stepsW ops.toList (T 0,H 0) lg=st at h hsteps
  split at h
  · simp at h
  · rename_i wl hr
    simp only [Bool.and_eq_true,List.all_eq_true,List.mem_range] at h
    obtain ⟨⟨h0,h1⟩,h2⟩:=h
    have hlt:∀{j:Nat} {o:Oper},ops[j]?=some o→j < ops.size:=by
      intro j o hj
      rcases Nat.lt_or_ge j ops.size with h | h
      · exact h
      · simp [Array.getElem?_eq_none h] at hj
    have hR:=fun (i:Nat) o (ho:ops[i]?=some o)=>runW_spec (X:=X) st wl hr i o _ _ (hsteps i o ho)
    generalize hhb:walkW X ops (keysW wl) (yetW (presOf ops.toList []) wl) (ops.toList.filterMap (·.dst)) (T 0) (H 0) 0 [] st=hl at h1
    have hwk:=fun (i:Nat) o (ho:ops[i]?=some o)=>walkW_spec (X:=X) (ops:=ops) (K:=keysW wl) (yet:=yetW (presOf ops.toList []) wl) (sl:=ops.toList.filterMap (·.dst)) (tm0:=T 0) (hs0:=H 0) st 0 [] i o _ _ (hsteps i o ho)
    rw [hhb] at hwk
    simp only [List.not_mem_nil,false_or,Nat.zero_add] at hwk
    have hgt:∀{i:Nat},(hl[i]?).getD false=true→hl[i]?=some true:=by
      intro i h
      cases hh:hl[i]? with
      | none=>rw [hh] at h;simp at h
      | some b=>rw [hh] at h;simp only [Option.getD_some] at h;rw [h]
    have hnot:∀{d:Nat} {l:List Nat},memN l d=false→d ∉ l:=by
      intro d l h hm
      rw [←memN_iff] at hm
      rw [h] at hm;simp at hm
    have hyet:∀(i n:Nat),yetW (presOf ops.toList []) wl i n=true→Yet X ops T H i n:=by
      intro i n h j o l ho hw hm
      obtain ⟨_,m,q1,q2,_⟩:=hR j o ho
      rw [hw] at q1
      simp only [Option.some.injEq] at q1
      subst q1
      unfold yetW at h
      rw [List.all_eq_true] at h
      have hj:j < wl.length:=by
        rcases Nat.lt_or_ge j wl.length with h | h
        · exact h
        · simp [List.getElem?_eq_none h] at q2
      have:=h j (List.mem_range.2 hj)
      rw [q2] at this
      simp only [Bool.or_eq_true,Bool.not_eq_true'] at this
      rcases this with h | h
      · exact absurd hm (hnot h)
      · exact h
    refine ⟨keysW wl,fun i=>(hl[i]?).getD false,hst,fun i o ho=>(hR i o ho).1,fun i o ho=>by
      obtain ⟨_,m,q1,_,q3⟩:=hR i o ho
      exact ⟨m,q1,q3⟩,fun i o ho hi=>?_,fun j o ho e he hb=>?_,fun i j oi oj hij hi hj=>?_,fun i k oi ok hik hi hk d hd=>?_⟩
    · obtain ⟨hsl',g1,g2⟩:=hwk i o ho (hgt hi)
      unfold hoistOk at g1
      simp only [Bool.and_eq_true,Bool.or_eq_true,List.all_eq_true,Bool.not_eq_true'] at g1
      refine ⟨g1.1.imp id fun h=>⟨_,hyet i,h⟩,fun u hu=>?_,g1.2.2⟩
      rcases g1.2.1 u hu with h | ⟨ha,hb⟩
      · obtain ⟨j,oj,q,q',j1,j2,j3,j4⟩:=g2 u ((memN_iff _ _).1 h)
        have hj:j < ops.size:=by have:=hlt ho;omega
        have hoj:ops[j]?=some ops[j]:=by simp [hj]
        rw [hsteps j _ hoj] at j3
        simp only [Option.some.injEq,Prod.mk.injEq] at j3
        exact .inl ⟨j,j1,by rw [j2];rfl,by rw [slot_dst hoj,j3.1];exact j4⟩
      · refine .inr ⟨fun j hj=>hnot ha ?_,hb⟩
        unfold slotOf at hj
        cases hoj:ops[j]? with
        | none=>rw [hoj] at hj;simp at hj
        | some oj =>
          rw [hoj] at hj
          exact List.mem_filterMap.2 ⟨oj,List.mem_of_getElem? (by simpa using hoj),by simpa using hj⟩
    · have:=backOK_spec ops.toList 0 h0 j o (by simpa using ho) e he hb
      omega
    · have := h1 j (hlt hj) i hij
      simp only [hi,hj,Bool.or_eq_true,Bool.and_eq_true,Bool.not_eq_true'] at this
      rcases this with h | ⟨⟨h1,h3⟩,h4⟩
      · exact .inl h
      · refine .inr ⟨?_,fun d hd=>?_,fun d hd=>?_⟩
        · rcases h1 with (h1 | h1) | ⟨h1,h1'⟩
          · exact .inl h1
          · exact .inr (.inl h1)
          · refine .inr (.inr ⟨?_,?_⟩)
            · cases hw:W i with
              | false=>rfl
              | true=>rw [hW i (hlt hi) hw] at h1;simp at h1
            · cases hw:W j with
              | false=>rfl
              | true=>rw [hW j (hlt hj) hw] at h1';simp at h1'
        · rw [hd] at h3
          exact hnot (by simpa using h3)
        · rw [hd] at h4
          exact hnot (by simpa using h4)
    · have:=h2 k (hlt hk) i (by omega)
      simp only [hi,hk,hd,Bool.or_eq_true,Bool.and_eq_true,Bool.not_eq_true'] at this
      intro hm
      rcases this with h | ⟨h,h'⟩
      · exact absurd hm (hnot h)
      · refine ⟨?_,h⟩
        rw [hhb] at h'
        exact h'
end
end Go.Eng
