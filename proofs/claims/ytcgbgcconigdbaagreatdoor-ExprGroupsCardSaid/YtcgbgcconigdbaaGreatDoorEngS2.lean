/-
 THE ENGINE, PART S2: A REGION THAT MAKES OBJECTS AND FILLS THEM, in any order that its edges allow: object by object.
-/
import Derived.Test.YtcgbgcconigdbaaGreatDoorEngS
namespace Go.Eng
open Go.RowKit
variable {α:Type}
def Sub (F:List Nat) (ns:Nat→Bool):Prop:=∀n,ns n=true→n∈F
mutual
theorem kill_free {F:List Nat} {ns:Nat→Bool} (hn:Sub F ns):∀(d:D α),freeD F d=true→kill ns d=d
 | .bool _,_ | .int _ _,_ | .str _,_ | .nilP,_ | .nilS,_ | .nilF,_ | .nilI,_ | .nilM,_ | .lit _,_ | .pl _ _,_ | .mr _,_ | .ifa,_ | .num,_ | .mref _ _,_ | .bad,_ | .obB _ _,_ | .obA _ _,_ | .obM _ _,_ | .env _ _,_=>by simp [kill]
 | .arr n,h | .ptr n _,h | .epr n _ _,h | .mp n,h=>by
  simp only [freeD,Bool.not_eq_true'] at h
  have:ns n=false:=by
   cases hb:ns n with
   | false=>rfl
   | true=>rw [(memN_iff F n).2 (hn n hb)] at h;simp at h
  simp [kill,this]
 | .gd _ _ _,h=>by simp [freeD] at h
 | .agg cs,h=>by simp only [freeD] at h;simp [kill,killL_free hn cs h]
 | .tup cs,h=>by simp only [freeD] at h;simp [kill,killL_free hn cs h]
 | .ref cs,h=>by simp only [freeD] at h;simp [kill,killL_free hn cs h]
 | .fn f cs,h=>by simp only [freeD] at h;simp [kill,killL_free hn cs h]
 | .ifc t d,h=>by simp only [freeD] at h;simp [kill,kill_free hn d h]
 | .ow k d,h=>by simp only [freeD] at h;simp [kill,kill_free hn d h]
theorem killL_free {F:List Nat} {ns:Nat→Bool} (hn:Sub F ns):∀(cs:List (D α)),freeL F cs=true→killL ns cs=cs
 | [],_=>by simp [killL]
 | d::r,h=>by
  simp only [freeL,Bool.and_eq_true] at h
  simp [killL,kill_free hn d h.1,killL_free hn r h.2]
end
mutual
theorem free_closed (F:List Nat):∀(d:D α),closed d=true→freeD F d=true
 | .bool _,_ | .int _ _,_ | .str _,_ | .nilP,_ | .nilS,_ | .nilF,_ | .nilI,_ | .nilM,_ | .lit _,_ | .pl _ _,_ | .mr _,_ | .ifa,_ | .num,_ | .mref _ _,_ | .bad,_ | .obB _ _,_ | .obA _ _,_ | .obM _ _,_ | .env _ _,_=>by simp [freeD]
 | .arr n,h | .ptr n _,h | .epr n _ _,h | .mp n,h | .gd _ _ _,h=>by simp [closed] at h
 | .agg cs,h | .tup cs,h | .ref cs,h | .fn _ cs,h=>by simp only [closed] at h;simp [freeD,freeL_closed F cs h]
 | .ifc t d,h=>by simp only [closed] at h;simp [freeD,free_closed F d h]
 | .ow k d,h=>by simp only [closed] at h;simp [freeD,free_closed F d h]
theorem freeL_closed (F:List Nat):∀(cs:List (D α)),closedL cs=true→freeL F cs=true
 | [],_=>by simp [freeL]
 | d::r,h=>by
  simp only [closedL,Bool.and_eq_true] at h
  simp [freeL,free_closed F d h.1,freeL_closed F r h.2]
end
theorem freeL_setT (F:List Nat) (x:D α) (hx:freeD F x=true):∀(l:List (D α)) (i:Nat),freeL F l=true→freeL F (setT l i x)=true
 | [],_,_=>by simp [setT,freeL]
 | d::r,0,h=>by simp only [freeL,Bool.and_eq_true] at h;simp [setT,freeL,hx,h.2]
 | d::r,i+1,h=>by simp only [freeL,Bool.and_eq_true] at h;simp [setT,freeL,h.1,freeL_setT F x hx r i h.2]
theorem freeL_overL (F:List Nat):∀(us l:List (D α)) (i:Nat),freeL F us=true→freeL F l=true→freeL F (overL l i us)=true
 | [],l,i,_,h=>by simpa [overL] using h
 | u::us,l,i,hu,h=>by
  simp only [freeL,Bool.and_eq_true] at hu
  simp only [overL]
  exact freeL_overL F us _ _ hu.2 (freeL_setT F u hu.1 l i h)
def OKtm (F:List Nat) (tm:List (D α)):Prop:=∀t,freeD F (getT tm t)=true∨∃k,getT tm t=.ptr t k
def freeOb (F:List Nat):Ob α→Bool
 | .box _ cs=>freeL F cs
 | .arr _ _=>true
 | .map _ _=>true
def OKhs (F:List Nat) (hs:Obs α):Prop:=∀o ob,look hs o=some ob→freeOb F ob=true
theorem killOb_free {F:List Nat} {ns:Nat→Bool} (hn:Sub F ns) {ob:Ob α} (h:freeOb F ob=true):killOb ns ob=ob:=by
 cases ob with
 | box fz cs=>simp only [killOb];rw [killL_free hn cs h]
 | arr fz p=>rfl
 | map fz p=>rfl
theorem freeT_spec (F:List Nat):∀(tm:List (D α)) (i:Nat),freeT F i tm=true→∀t,freeD F (getT tm t)=true∨∃k,getT tm t=.ptr (i+t) k
 | [],i,_,t=>.inl (by simp [getT,freeD])
 | d::r,i,h,t=>by
  simp only [freeT,Bool.and_eq_true,Bool.or_eq_true] at h
  cases t with
  | zero =>
   simp only [getT]
   rcases h.1 with h | h
   ·exact .inl h
   ·split at h
    ·rename_i n k _
     exact .inr ⟨k,by rw [Nat.eq_of_beq_eq_true h,Nat.add_zero]⟩
    ·simp at h
  | succ t =>
   simp only [getT]
   have:=freeT_spec F r (i+1) h.2 t
   rwa [show i+1+t=i+(t+1) by omega] at this
theorem freeH_spec (F:List Nat):∀(hs:Obs α),freeH F hs=true→OKhs F hs
 | [],_=>fun o ob h=>by simp [look] at h
 | (n,x)::r,h=>by
  intro o ob ho
  rw [look_cons] at ho
  cases x with
  | box fz cs =>
   simp only [freeH,Bool.and_eq_true] at h
   split at ho
   ·simp only [Option.some.injEq] at ho;subst ho;exact h.1
   ·exact freeH_spec F r h.2 o ob ho
  | arr fz p =>
   simp only [freeH] at h
   split at ho
   ·simp only [Option.some.injEq] at ho;subst ho;rfl
   ·exact freeH_spec F r h o ob ho
  | map fz p =>
   simp only [freeH] at h
   split at ho
   ·simp only [Option.some.injEq] at ho;subst ho;rfl
   ·exact freeH_spec F r h o ob ho
theorem OKtm.put {F:List Nat} {tm:List (D α)} (h:OKtm F tm) {dst:Option Nat} {x:D α} (hx:freeD F x=true∨∃s k,dst=some s∧x=.ptr s k):OKtm F (putT tm dst x):=by
 intro t
 rw [getT_put]
 split
 ·rename_i hc
  rcases hx with hx | ⟨s,k,h1,rfl⟩
  ·exact .inl hx
  ·rw [h1] at hc;simp only [Option.some.injEq] at hc;obtain ⟨rfl,_⟩:=hc;exact .inr ⟨k,rfl⟩
 ·exact h t
theorem put_kill {F:List Nat} {tm:List (D α)} (h:OKtm F tm) {d:Nat} (hd:d∈F) (x:D α):putT (tm.map (kill (nsOf d d))) (some d) x=putT tm (some d) x:=by
 have hn:Sub F (nsOf d d):=by
  intro n hn
  simp only [nsOf,Bool.or_self] at hn
  rw [Nat.eq_of_beq_eq_true hn];exact hd
 refine ext_getT (by simp [putT_length]) fun t=>?_
 rw [getT_put,getT_put,List.length_map]
 split
 ·rfl
 ·rename_i hc
  rw [getT_map _ (by simp [kill])]
  rcases h t with h | ⟨k,h⟩
  ·exact kill_free hn _ h
  ·rw [h]
   by_cases ht:t < tm.length
   ·have:t≠d:=fun e=>hc ⟨by rw [e],ht⟩
    have hb:nsOf d d t=false:=by
     simp only [nsOf,Bool.or_self]
     cases hb:Nat.beq t d with
     | false=>rfl
     | true=>exact absurd (Nat.eq_of_beq_eq_true hb) this
    simp [kill,hb]
   ·rw [getT_out _ _ (by omega)] at h;simp at h
structure StepC (F:List Nat) (tm:List (D α)) (hs:Obs α) (o:Oper) (T:Option Nat) (tm1:List (D α)) (hs1:Obs α) (v:D α):Prop where
 tm1:tm1=putT tm o.dst v
 fv:freeD F v=true∨∃s k,o.dst=some s∧v=.ptr s k
 other:∀k,T≠some k→look hs1 k=look hs k
 okh:OKhs F hs1
section
variable {X:Ctx α} {F:List Nat}
theorem okC_pure {tm:List (D α)} {hs:Obs α} {o:Oper} (hp:pureOp o=true) (h:freeD F (evalOp X tm hs [] o).d=true) (hh:OKhs F hs) :
  StepC F tm hs o none (nextC X tm hs o).1 (nextC X tm hs o).2 (evalOp X tm hs [] o).d∧(evalOp X tm hs [] o).ch=none:=by
 have hc:=(pure_hs (X:=X) (tm:=tm) (hs:=hs) hp []).2
 refine ⟨⟨?_,.inl h,fun k _=>?_,?_⟩,hc⟩
 all_goals (simp only [nextC,hc];try rfl)
 exact hh
theorem slice_hs {t:TypeId} (h:strT X.P t=true) (hs hs':Obs α) (tm tm':List (D α)) (x:D α) (l r m:Option (D α)):sliceD X hs tm t x l r m=sliceD X hs' tm' t x l r m∧(sliceD X hs tm t x l r m).ch=none:=by
 have hu:X.P.underlying t=some .string:=by
  unfold strT at h
  split at h
  ·assumption
  ·cases h
 unfold sliceD
 rw [hu]
 cases x<;>cases m<;>(try exact ⟨rfl,rfl⟩)
 refine ⟨rfl,?_⟩
 simp only
 split<;>rfl
theorem slice_plw (hs hs':Obs α) (tm tm':List (D α)) (t:TypeId) (p:α) (k:SK) (l r m:Option (D α)):sliceD X hs tm t (.pl p k) l r m=sliceD X hs' tm' t (.pl p k) l r m∧(sliceD X hs tm t (.pl p k) l r m).ch=none:=by
 unfold sliceD
 refine ⟨?_,?_⟩
 ·split<;>first | rfl | (rename_i h;cases h)
 ·split<;>first | rfl | (rename_i h;cases h) | skip
  all_goals (repeat' split)
  all_goals rfl
theorem slice_nilw (hs hs':Obs α) (tm tm':List (D α)) (t:TypeId) (l r m:Option (D α)):sliceD X hs tm t .nilS l r m=sliceD X hs' tm' t .nilS l r m∧(sliceD X hs tm t .nilS l r m).ch=none:=by
 unfold sliceD
 refine ⟨?_,?_⟩
 ·split<;>first | rfl | (rename_i h;cases h)
 ·split<;>first | rfl | (rename_i h;cases h) | skip
  all_goals (repeat' split)
  all_goals rfl
theorem slice_ok {t:TypeId} {x:D α} (h:slOk X t x=true) (hs hs':Obs α) (tm tm':List (D α)) (l r m:Option (D α)):sliceD X hs tm t x l r m=sliceD X hs' tm' t x l r m∧(sliceD X hs tm t x l r m).ch=none:=by
 unfold slOk at h
 rcases Bool.or_eq_true_iff.1 h with h | h
 ·exact slice_hs h _ _ _ _ _ _ _ _
 ·split at h
  ·exact slice_plw _ _ _ _ _ _ _ _ _ _
  ·exact slice_nilw _ _ _ _ _ _ _ _
  ·cases h
theorem lend_cl (C:Pay α) (hs hs':Obs α):∀(n:Nat),(∀d:D α,closed d=true→lend C hs' n d=lend C hs n d∧∀x ns,lend C hs n d=some (x,ns)→ns=[]) ∧
  ∀l:List (D α),closedL l=true→lend.lendL C hs' n l=lend.lendL C hs n l∧∀x ns,lend.lendL C hs n l=some (x,ns)→ns=[]:=by
 intro n
 induction n with
 | zero =>
  refine ⟨fun d _=>⟨rfl,fun x ns h=>by simp [lend] at h⟩,fun l _=>?_⟩
  cases l with
  | nil=>exact ⟨rfl,fun x ns h=>by simp only [lend.lendL,Option.some.injEq,Prod.mk.injEq] at h;exact h.2.symm⟩
  | cons d r=>exact ⟨rfl,fun x ns h=>by simp [lend.lendL] at h⟩
 | succ n ih =>
  have hd:∀d:D α,closed d=true→lend C hs' (n+1) d=lend C hs (n+1) d∧∀x ns,lend C hs (n+1) d=some (x,ns)→ns=[]:=by
   intro d hd
   have hgo:∀(cs:List (D α)) (K:List (D α)→D α),closedL cs=true→((match lend.lendL C hs' n cs with
     | some (l,ns)=>some (K l,ns)
     | none=>none)=(match lend.lendL C hs n cs with
     | some (l,ns)=>some (K l,ns)
     | none=>none))∧∀x ns,(match lend.lendL C hs n cs with
     | some (l,ns)=>some (K l,ns)
     | none=>none)=some (x,ns)→ns=[]:=by
    intro cs K hc
    obtain ⟨h1,h2⟩:=ih.2 cs hc
    refine ⟨by rw [h1],fun x ns h=>?_⟩
    cases hl:lend.lendL C hs n cs with
    | none=>rw [hl] at h;simp at h
    | some q =>
     rw [hl] at h
     simp only [Option.some.injEq,Prod.mk.injEq] at h
     rw [←h.2]
     exact h2 q.1 q.2 hl
   cases d<;>simp only [closed,Bool.false_eq_true] at hd
   case agg cs=>simp only [lend];exact hgo cs .agg hd
   case tup cs=>simp only [lend];exact hgo cs .tup hd
   case ref cs=>simp only [lend];exact hgo cs .ref hd
   case fn f cs=>simp only [lend];exact hgo cs (.fn f) hd
   case ifc t d =>
    simp only [lend]
    obtain ⟨h1,h2⟩:=ih.1 d hd
    refine ⟨by rw [h1],fun x ns h=>?_⟩
    cases hl:lend C hs n d with
    | none=>rw [hl] at h;simp at h
    | some q =>
     rw [hl] at h
     simp only [Option.some.injEq,Prod.mk.injEq] at h
     rw [←h.2]
     exact h2 q.1 q.2 hl
   all_goals (refine ⟨by simp only [lend],fun x ns h=>?_⟩;simp only [lend,Option.some.injEq,Prod.mk.injEq,reduceCtorEq] at h;try exact h.2.symm)
  refine ⟨hd,fun l hl=>?_⟩
  cases l with
  | nil=>exact ⟨rfl,fun x ns h=>by simp only [lend.lendL,Option.some.injEq,Prod.mk.injEq] at h;exact h.2.symm⟩
  | cons d r =>
   simp only [closedL,Bool.and_eq_true] at hl
   obtain ⟨h1,h2⟩:=ih.1 d hl.1
   obtain ⟨h3,h4⟩:=ih.2 r hl.2
   simp only [lend.lendL]
   refine ⟨by rw [h1,h3],fun x ns h=>?_⟩
   cases hl1:lend C hs n d with
   | none=>rw [hl1] at h;simp at h
   | some q =>
    cases hl2:lend.lendL C hs n r with
    | none=>rw [hl1,hl2] at h;simp at h
    | some q' =>
     rw [hl1,hl2] at h
     simp only [Option.some.injEq,Prod.mk.injEq] at h
     rw [←h.2,h2 q.1 q.2 hl1,h4 q'.1 q'.2 hl2]
     rfl
theorem lendAll_cl (C:Pay α) (hs hs':Obs α):∀l:List (D α),closedL l=true→lendAll C hs' l=lendAll C hs l∧∀x ns,lendAll C hs l=some (x,ns)→ns=[]
 | [],_=>⟨rfl,fun x ns h=>by simp only [lendAll,Option.some.injEq,Prod.mk.injEq] at h;exact h.2.symm⟩
 | d::r,hl=>by
  simp only [closedL,Bool.and_eq_true] at hl
  obtain ⟨h1,h2⟩:=(lend_cl C hs hs' 40).1 d hl.1
  obtain ⟨h3,h4⟩:=lendAll_cl C hs hs' r hl.2
  simp only [lendAll]
  refine ⟨by rw [h1,h3],fun x ns h=>?_⟩
  cases hl1:lend C hs 40 d with
  | none=>rw [hl1] at h;simp at h
  | some q =>
   cases hl2:lendAll C hs r with
   | none=>rw [hl1,hl2] at h;simp at h
   | some q' =>
    rw [hl1,hl2] at h
    simp only [Option.some.injEq,Prod.mk.injEq] at h
    rw [←h.2,h2 q.1 q.2 hl1,h4 q'.1 q'.2 hl2]
    rfl
theorem call_same {tm:List (D α)} {hs:Obs α} {o:Oper} (h:closedCall X tm o=true) (hch:(evalOp X tm hs [] o).ch=none) (how:isOwD (evalOp X tm hs [] o).d=false) (hok:(evalOp X tm hs [] o).ok=true) {tm':List (D α)} {hs':Obs α}
  (hag:∀x∈o.op.operands,∀ks,evK X tm' ks x=evK X tm ks x):closedCall X tm' o=true∧evalOp X tm' hs' [] o=evalOp X tm hs [] o:=by
 obtain ⟨dst,op,type,pos,after,guard⟩:=o
 unfold closedCall at h ⊢
 cases op<;>simp only [Bool.false_eq_true] at h
 rename_i cl
 obtain ⟨callee,args,argTypes⟩:=cl
 cases callee with
 | invoke r m=>simp at h
 | builtin b=>simp at h
 | value f =>
  have e1:=hag f (by simp [Op.operands,Call.operands]) []
  have e2:args.toList.map (evK X tm' [])=args.toList.map (evK X tm []):=List.map_congr_left fun p hp=>hag p (by simp [Op.operands,Call.operands];exact .inr (by simpa using hp)) []
  simp only at h ⊢
  rw [e1,e2]
  simp only [evalOp] at hch how hok ⊢
  rw [e1,e2]
  cases hf:evK X tm [] f with
  | fn g cs =>
   rw [hf] at h hch how hok
   simp only [Bool.and_eq_true,Bool.not_eq_true'] at h hch how hok ⊢
   obtain ⟨hm,hcl⟩:=h
   refine ⟨⟨hm,hcl⟩,?_⟩
   generalize capA g cs (args.toList.map (evK X tm []))=l at hcl hch how hok
   unfold callD at hch how hok ⊢
   rw [hm] at hch how hok ⊢
   simp only [cond_false] at hch how hok ⊢
   obtain ⟨h1,h2⟩:=lendAll_cl X.C hs hs' l hcl
   rw [h1]
   cases hl:(bif Nat.blt (fnId g) 1000000 then lendAll X.C hs l else none) with
   | none=>rfl
   | some q =>
    obtain ⟨ds,ns⟩:=q
    have hns:ns=[]:=by
     revert hl
     cases Nat.blt (fnId g) 1000000 with
     | false=>simp
     | true=>intro hl;exact h2 ds ns hl
    subst hns
    rw [hl] at hch how hok
    simp only at hch how hok ⊢
    cases hR:X.R (fnId g) ds with
    | none=>rfl
    | some q =>
     obtain ⟨b,d⟩:=q
     rw [hR] at hch how hok
     simp only at hch how hok ⊢
     cases hb:bindD hs dst d with
     | some q=>obtain ⟨m,p,e⟩:=q;rw [hb] at hch;simp at hch
     | none =>
      rw [hb] at how
      have hd:isOwD d=false:=by simpa [isNil] using how
      have hb':bindD hs' dst d=none:=by
       unfold bindD
       cases d<;>first | rfl | (simp [isOwD] at hd)
      rw [hb']
      simp [isNil]
  | _=>rw [hf] at h;simp at h
theorem index_hs {x:D α} (h:closed x=true) (hs hs':Obs α) (t:TypeId) (i:D α):indexAddrD X hs' t x i=indexAddrD X hs t x i:=by
 unfold indexAddrD
 generalize X.P.underlying t=u
 cases u with
 | none=>cases x<;>first | (simp [closed] at h;done) | rfl
 | some u=>cases u<;>cases x<;>first | (simp [closed] at h;done) | rfl | (cases i<;>rfl)
theorem okC_step {tm:List (D α)} {hs:Obs α} {o:Oper} (h:okC X F tm hs o=true) (ht:OKtm F tm) (hh:OKhs F hs) :
  ∃v,StepC F tm hs o (touchC X tm o) (nextC X tm hs o).1 (nextC X tm hs o).2 v ∧
   ∀tm' hs',(∀x∈o.op.operands,∀ks,evK X tm' ks x=evK X tm ks x)→OKtm F tm'→OKhs F hs'→(∀k,(touchC X tm o=some k∨k ∉ F)→look hs' k=look hs k) →
    okC X F tm' hs' o=true∧touchC X tm' o=touchC X tm o∧StepC F tm' hs' o (touchC X tm o) (nextC X tm' hs' o).1 (nextC X tm' hs' o).2 v ∧
    ∀k,touchC X tm o=some k→look (nextC X tm' hs' o).2 k=look (nextC X tm hs o).2 k:=by
 obtain ⟨dst,op,type,pos,after,guard⟩:=o
 simp only [okC,Bool.and_eq_true] at h
 obtain ⟨hok,h⟩:=h
 by_cases hp:pureOp ⟨dst,op,type,pos,after,guard⟩=true
 ·have htc:∀tm,touchC X tm ⟨dst,op,type,pos,after,guard⟩=none:=by intro tm;cases op<;>first | rfl | (simp [pureOp] at hp)
  have hcl:freeD F (evalOp X tm hs [] ⟨dst,op,type,pos,after,guard⟩).d=true:=by
   cases op<;>first | (simp [pureOp] at hp;done) | (simp only [Bool.and_eq_true] at h;exact h.2)
  refine ⟨_,by rw [htc];exact (okC_pure hp hcl hh).1,fun tm' hs' hag ht' hh' hlk=>?_⟩
  have he:evalOp X tm' hs' [] ⟨dst,op,type,pos,after,guard⟩=evalOp X tm hs [] ⟨dst,op,type,pos,after,guard⟩:=by
   refine ((pure_hs (X:=X) (tm:=tm') (hs:=hs) hp []).1 hs').trans ?_
   rcases evalOp_on (X:=X) (tm:=tm) (hs:=hs) ⟨dst,op,type,pos,after,guard⟩ [] with ⟨ns,hs1,h1⟩ | ⟨_,h1⟩
   ·rw [(pure_hs hp []).2] at h1;simp at h1
   ·exact h1 tm' hag
  refine ⟨?_,by rw [htc,htc],?_,fun k hk=>by rw [htc] at hk;simp at hk⟩
  ·cases op<;>first | (simp [pureOp] at hp;done) | (simp only [okC,he,hok,hp,hcl];rfl)
  ·rw [htc]
   have:=(okC_pure (X:=X) (F:=F) (tm:=tm') (hs:=hs') hp (by rw [he];exact hcl) hh').1
   rw [he] at this
   exact this
 cases op
 case call cl =>
  simp only [Bool.and_eq_true,Option.isNone_iff_eq_none,Bool.not_eq_true'] at h
  obtain ⟨h1,h2,h3,h4⟩:=h
  refine ⟨(evalOp X tm hs [] ⟨dst,.call cl,type,pos,after,guard⟩).d,⟨by simp only [nextC,h2],.inl (free_closed F _ h3),fun k _=>by simp only [nextC,h2],by simp only [nextC,h2];exact hh⟩,fun tm' hs' hag ht' hh' hlk=>?_⟩
  obtain ⟨g1,g2⟩:=call_same (hs':=hs') h1 h2 h4 hok hag
  refine ⟨?_,rfl,⟨by simp only [nextC,g2,h2],.inl (free_closed F _ h3),fun k _=>by simp only [nextC,g2,h2],by simp only [nextC,g2,h2];exact hh'⟩,fun k hk=>by simp [touchC] at hk⟩
  simp only [okC,g1,g2,hok,h2,h3,h4];rfl
 case indexAddr t x i =>
  simp only [Bool.and_eq_true] at h
  obtain ⟨h1,h2⟩:=h
  have hch:(evalOp X tm hs [] ⟨dst,.indexAddr t x i,type,pos,after,guard⟩).ch=none:=by simp only [evalOp];exact indexAddrD_ch _ _ _
  refine ⟨(evalOp X tm hs [] ⟨dst,.indexAddr t x i,type,pos,after,guard⟩).d,⟨by simp only [nextC,hch],.inl (free_closed F _ h2),fun k _=>by simp only [nextC,hch],by simp only [nextC,hch];exact hh⟩,fun tm' hs' hag ht' hh' hlk=>?_⟩
  have e1:=hag x (by simp [Op.operands]) []
  have e2:=hag i (by simp [Op.operands]) []
  have hE:evalOp X tm' hs' [] ⟨dst,.indexAddr t x i,type,pos,after,guard⟩=evalOp X tm hs [] ⟨dst,.indexAddr t x i,type,pos,after,guard⟩:=by
   simp only [evalOp]
   rw [e1,e2]
   exact index_hs h1 hs hs' t _
  refine ⟨?_,rfl,⟨by simp only [nextC,hE,hch],.inl (free_closed F _ h2),fun k _=>by simp only [nextC,hE,hch],by simp only [nextC,hE,hch];exact hh'⟩,fun k hk=>by simp [touchC] at hk⟩
  simp only [okC,hE,e1,hok,h1,h2];rfl
 case load t a =>
  simp only [Bool.and_eq_true] at h
  obtain ⟨h1,h2⟩:=h
  have hcc:∀tm' hs',evK X tm' [] a=evK X tm [] a→(∀k,k ∉ F→look hs' k=look hs k)→cellsAt X.C hs' (evK X tm' [] a)=cellsAt X.C hs (evK X tm [] a):=by
   intro tm' hs' he hl
   rw [he]
   cases ha:evK X tm [] a
   case ptr n off =>
    rw [ha] at h1
    have hn:n ∉ F:=by
     intro hm
     rw [←memN_iff] at hm
     simp [addrIn,hm] at h1
    simp only [cellsAt,hl n hn]
   case epr n i off =>
    rw [ha] at h1
    have hn:n ∉ F:=by
     intro hm
     rw [←memN_iff] at hm
     simp [addrIn,hm] at h1
    simp only [cellsAt,hl n hn]
   all_goals rfl
  have hev:∀tm' hs',evK X tm' [] a=evK X tm [] a→(∀k,k ∉ F→look hs' k=look hs k) →
    evalOp X tm' hs' [] ⟨dst,.load t a,type,pos,after,guard⟩=evalOp X tm hs [] ⟨dst,.load t a,type,pos,after,guard⟩:=by
   intro tm' hs' he hl
   simp only [evalOp]
   rw [hcc tm' hs' he hl]
  have hch:(evalOp X tm hs [] ⟨dst,.load t a,type,pos,after,guard⟩).ch=none:=by
   simp only [evalOp]
   split
   ·exact Res.o_ch _
   ·rfl
  refine ⟨(evalOp X tm hs [] ⟨dst,.load t a,type,pos,after,guard⟩).d,⟨by simp only [nextC,hch],.inl h2,fun k _=>by simp only [nextC,hch],by simp only [nextC,hch];exact hh⟩,fun tm' hs' hag ht' hh' hlk=>?_⟩
  have he:=hag a (by simp [Op.operands]) []
  have hE:=hev tm' hs' he fun k hk=>hlk k (.inr hk)
  refine ⟨?_,rfl,⟨by simp only [nextC,hE,hch],.inl h2,fun k _=>by simp only [nextC,hE,hch],by simp only [nextC,hE,hch];exact hh'⟩,fun k hk=>by simp [touchC] at hk⟩
  simp only [okC,hE,he,hok,h1,h2];rfl
 case lookup t m y ok =>
  simp only [Bool.and_eq_true] at h
  obtain ⟨h1,h2⟩:=h
  have hcc:∀hs',(∀k,k ∉ F→look hs' k=look hs k)→mapOf X hs' t (evK X tm [] m)=mapOf X hs t (evK X tm [] m):=by
   intro hs' hl
   cases hm:evK X tm [] m
   case mp n =>
    rw [hm] at h1
    have hn:n ∉ F:=by
     intro hq
     rw [←memN_iff] at hq
     simp [freeD,hq] at h1
    simp only [mapOf,hl n hn]
   all_goals rfl
  have hev:∀tm' hs',evK X tm' [] m=evK X tm [] m→evK X tm' [] y=evK X tm [] y→(∀k,k ∉ F→look hs' k=look hs k) →
    evalOp X tm' hs' [] ⟨dst,.lookup t m y ok,type,pos,after,guard⟩=evalOp X tm hs [] ⟨dst,.lookup t m y ok,type,pos,after,guard⟩:=by
   intro tm' hs' e1 e2 hl
   simp only [evalOp,lookupD]
   rw [e1,e2,hcc hs' hl]
  have hch:(evalOp X tm hs [] ⟨dst,.lookup t m y ok,type,pos,after,guard⟩).ch=none:=by simp only [evalOp];exact lookupD_ch _ _ _ _
  refine ⟨(evalOp X tm hs [] ⟨dst,.lookup t m y ok,type,pos,after,guard⟩).d,⟨by simp only [nextC,hch],.inl h2,fun k _=>by simp only [nextC,hch],by simp only [nextC,hch];exact hh⟩,fun tm' hs' hag ht' hh' hlk=>?_⟩
  have e1:=hag m (by simp [Op.operands]) []
  have e2:=hag y (by simp [Op.operands]) []
  have hE:=hev tm' hs' e1 e2 fun k hk=>hlk k (.inr hk)
  refine ⟨?_,rfl,⟨by simp only [nextC,hE,hch],.inl h2,fun k _=>by simp only [nextC,hE,hch],by simp only [nextC,hE,hch];exact hh'⟩,fun k hk=>by simp [touchC] at hk⟩
  simp only [okC,hE,e1,hok,h1,h2];rfl
 case slice t x l r m =>
  simp only [Bool.and_eq_true] at h
  obtain ⟨h1,h2⟩:=h
  have hev:∀tm' hs',(∀y∈(Op.slice t x l r m).operands,∀ks,evK X tm' ks y=evK X tm ks y)→evalOp X tm' hs' [] ⟨dst,.slice t x l r m,type,pos,after,guard⟩=evalOp X tm hs [] ⟨dst,.slice t x l r m,type,pos,after,guard⟩:=by
   intro tm' hs' hag
   have gl:l.map (evK X tm' [])=l.map (evK X tm []):=by
    cases l with
    | none=>rfl
    | some y=>exact congrArg some (hag y (by simp [Op.operands]) [])
   have gr:r.map (evK X tm' [])=r.map (evK X tm []):=by
    cases r with
    | none=>rfl
    | some y=>exact congrArg some (hag y (by simp [Op.operands]) [])
   have gm:m.map (evK X tm' [])=m.map (evK X tm []):=by
    cases m with
    | none=>rfl
    | some y=>exact congrArg some (hag y (by simp [Op.operands]) [])
   simp only [evalOp]
   rw [hag x (by simp [Op.operands]) [],gl,gr,gm]
   exact (slice_ok h1 _ _ _ _ _ _ _).1
  have hch:(evalOp X tm hs [] ⟨dst,.slice t x l r m,type,pos,after,guard⟩).ch=none:=by
   simp only [evalOp]
   exact (slice_ok h1 hs hs tm tm _ _ _).2
  refine ⟨(evalOp X tm hs [] ⟨dst,.slice t x l r m,type,pos,after,guard⟩).d,⟨by simp only [nextC,hch],.inl (free_closed F _ h2),fun k _=>by simp only [nextC,hch],by simp only [nextC,hch];exact hh⟩,fun tm' hs' hag ht' hh' hlk=>?_⟩
  have hE:=hev tm' hs' hag
  refine ⟨?_,rfl,⟨by simp only [nextC,hE,hch],.inl (free_closed F _ h2),fun k _=>by simp only [nextC,hE,hch],by simp only [nextC,hE,hch];exact hh'⟩,fun k hk=>by simp [touchC] at hk⟩
  simp only [okC,hE,hok,hag x (by simp [Op.operands]) [],h1,h2];rfl
 case alloc t =>
  cases dst with
  | none=>simp [pureOp] at h
  | some d =>
  simp only [Bool.and_eq_true] at h
  obtain ⟨h1,h2⟩:=h
  rw [memN_iff] at h1
  cases hz:(zeroD X.P t:Option (D α)) with
  | none=>simp [hz] at h2
  | some z =>
  simp only [hz] at h2
  have hg:goodCells (cellsD z)=true:=by
   cases hg:goodCells (cellsD z) with
   | true=>rfl
   | false=>simp [evalOp,hz,hg,Res.no] at hok
  have hzc:closedL (cellsD z)=true:=by
   cases z<;>first | exact h2 | (show (closed _&&closedL [])=true;rw [h2];rfl)
  have hkl:killL (nsOf d d) (cellsD z)=cellsD z:=killL_closed _ _ hzc
  have hn:Sub F (nsOf d d):=by
   intro n hn
   simp only [nsOf,Bool.or_self] at hn
   rw [Nat.eq_of_beq_eq_true hn];exact h1
  have hev:∀tm hs,evalOp X tm hs [] ⟨some d,.alloc t,type,pos,after,guard⟩=⟨true,.ptr d 0,some (tm.map (kill (nsOf d d)),rebind d d (.box false (cellsD z)) hs)⟩:=by
   intro tm hs
   have hd4:Nat.blt d 40000=true:=by simpa [evalOp,hz,hg,boxD] using hok
   simp only [evalOp,hz,hg,cond_true,boxD,Option.getD_some,hkl,hd4]
  have hlk:∀(hs:Obs α),OKhs F hs→∀k,look (rebind d d (.box false (cellsD z)) hs) k=if k=d then some (.box false (cellsD z)) else look hs k:=by
   intro hs hh k
   rw [look_rebind]
   split
   ·rfl
   ·cases hl:look hs k with
    | none=>rfl
    | some ob=>simp only [Option.map_some];rw [killOb_free hn (hh k ob hl)]
  have hst:∀tm hs,OKtm F tm→OKhs F hs→StepC F tm hs ⟨some d,.alloc t,type,pos,after,guard⟩ (some d) (nextC X tm hs ⟨some d,.alloc t,type,pos,after,guard⟩).1 (nextC X tm hs ⟨some d,.alloc t,type,pos,after,guard⟩).2 (.ptr d 0):=by
   intro tm hs ht hh
   refine ⟨by simp only [nextC,hev];exact put_kill ht h1 _,.inr ⟨d,0,rfl,rfl⟩,fun k hk=>?_,fun o ob ho=>?_⟩
   ·simp only [nextC,hev]
    rw [hlk hs hh,if_neg (fun e=>hk (by rw [e]))]
   ·simp only [nextC,hev] at ho
    rw [hlk hs hh] at ho
    split at ho
    ·simp only [Option.some.injEq] at ho;subst ho;exact freeL_closed F _ hzc
    ·exact hh o ob ho
  refine ⟨.ptr d 0,hst tm hs ht hh,fun tm' hs' hag ht' hh' hl=>⟨?_,rfl,hst tm' hs' ht' hh',fun k hk=>?_⟩⟩
  ·simp only [okC,hev,hz,h2,(memN_iff F d).2 h1];rfl
  ·simp only [touchC,Option.some.injEq] at hk
   subst hk
   simp only [nextC,hev]
   rw [hlk hs hh,hlk hs' hh',if_pos rfl,if_pos rfl]
 case box t x =>
  cases dst with
  | none=>simp [pureOp] at h
  | some d =>
  simp only [Bool.and_eq_true] at h
  obtain ⟨h1,h2⟩:=h
  rw [memN_iff] at h1
  cases hz:storeCellsD X.P t (evK X tm [] x) with
  | none=>simp [evalOp,hz,Res.no] at hok
  | some cs =>
  have hzc:closedL cs=true:=by
   unfold storeCellsD at hz
   split at hz
   ·rename_i hx
    rw [hx] at h2
    simp only [closed] at h2
    simp only [Bool.cond_eq_ite] at hz
    split at hz
    ·simp only [Option.some.injEq] at hz;subst hz;exact h2
    ·simp at hz
   ·simp only [Bool.cond_eq_ite] at hz
    split at hz
    ·simp only [Option.some.injEq] at hz;subst hz;simp only [closedL,Bool.and_true];exact h2
    ·simp at hz
   ·simp at hz
  have hkl:killL (nsOf d d) cs=cs:=killL_closed _ _ hzc
  have hn:Sub F (nsOf d d):=by
   intro n hn
   simp only [nsOf,Bool.or_self] at hn
   rw [Nat.eq_of_beq_eq_true hn];exact h1
  have hev:∀tm' hs,evK X tm' [] x=evK X tm [] x→evalOp X tm' hs [] ⟨some d,.box t x,type,pos,after,guard⟩=⟨true,.ptr d 0,some (tm'.map (kill (nsOf d d)),rebind d d (.box false cs) hs)⟩:=by
   intro tm' hs he
   have hd4:Nat.blt d 40000=true:=by simpa [evalOp,hz,boxD] using hok
   simp only [evalOp,he,hz,boxD,Option.getD_some,hkl,hd4]
  have hlk:∀(hs:Obs α),OKhs F hs→∀k,look (rebind d d (.box false cs) hs) k=if k=d then some (.box false cs) else look hs k:=by
   intro hs hh k
   rw [look_rebind]
   split
   ·rfl
   ·cases hl:look hs k with
    | none=>rfl
    | some ob=>simp only [Option.map_some];rw [killOb_free hn (hh k ob hl)]
  have hst:∀tm' hs,evK X tm' [] x=evK X tm [] x→OKtm F tm'→OKhs F hs→StepC F tm' hs ⟨some d,.box t x,type,pos,after,guard⟩ (some d) (nextC X tm' hs ⟨some d,.box t x,type,pos,after,guard⟩).1 (nextC X tm' hs ⟨some d,.box t x,type,pos,after,guard⟩).2 (.ptr d 0):=by
   intro tm' hs he ht hh
   refine ⟨by simp only [nextC,hev tm' hs he];exact put_kill ht h1 _,.inr ⟨d,0,rfl,rfl⟩,fun k hk=>?_,fun o ob ho=>?_⟩
   ·simp only [nextC,hev tm' hs he]
    rw [hlk hs hh,if_neg (fun e=>hk (by rw [e]))]
   ·simp only [nextC,hev tm' hs he] at ho
    rw [hlk hs hh] at ho
    split at ho
    ·simp only [Option.some.injEq] at ho;subst ho;exact freeL_closed F _ hzc
    ·exact hh o ob ho
  refine ⟨.ptr d 0,hst tm hs rfl ht hh,fun tm' hs' hag ht' hh' hl=>?_⟩
  have he:=hag x (by simp [Op.operands]) []
  refine ⟨?_,rfl,hst tm' hs' he ht' hh',fun k hk=>?_⟩
  ·simp only [okC,hev tm' hs' he,he,h2,(memN_iff F d).2 h1];rfl
  ·simp only [touchC,Option.some.injEq] at hk
   subst hk
   simp only [nextC,hev tm hs rfl,hev tm' hs' he]
   rw [hlk hs hh,hlk hs' hh',if_pos rfl,if_pos rfl]
 case store t a x =>
  cases dst with
  | some d=>simp [pureOp] at h
  | none =>
  simp only [Bool.and_eq_true] at h
  obtain ⟨h1,h2⟩:=h
  obtain ⟨n,off,ha,hnF⟩:∃n off,evK X tm [] a=.ptr n off∧n∈F:=by
   cases ha:evK X tm [] a<;>rw [ha] at h1<;>simp only [addrIn] at h1<;>try (simp at h1;done)
   case ptr n off =>
    cases hm:memN F n with
    | true=>exact ⟨n,off,rfl,(memN_iff F n).1 hm⟩
    | false=>rw [hm] at h1;simp at h1
   case epr n i off =>
    cases hm:memN F n<;>rw [hm] at h1<;>simp at h1
  cases hz:storeCellsD X.P t (evK X tm [] x) with
  | none=>simp [evalOp,storeD,hz,Res.no] at hok
  | some cs =>
  have hzc:closedL cs=true:=by
   unfold storeCellsD at hz
   split at hz
   ·rename_i hx
    rw [hx] at h2
    simp only [closed] at h2
    simp only [Bool.cond_eq_ite] at hz
    split at hz
    ·simp only [Option.some.injEq] at hz;subst hz;exact h2
    ·simp at hz
   ·simp only [Bool.cond_eq_ite] at hz
    split at hz
    ·simp only [Option.some.injEq] at hz;subst hz;simp only [closedL,Bool.and_true];exact h2
    ·simp at hz
   ·simp at hz
  obtain ⟨old,hl0⟩:∃old,look hs n=some (.box false old):=by
   simp only [evalOp,storeD,hz,ha] at hok
   split at hok
   ·rename_i old ho;exact ⟨old,ho⟩
   ·simp [Res.no] at hok
  have hev:∀tm' hs',evK X tm' [] x=evK X tm [] x→evK X tm' [] a=evK X tm [] a→look hs' n=look hs n →
    evalOp X tm' hs' [] ⟨none,.store t a x,type,pos,after,guard⟩=⟨Nat.ble (off+cs.length) old.length,.lit undef,some (tm',upd hs' n (.box false (overL old off cs)))⟩:=by
   intro tm' hs' hx ha' hl
   simp only [evalOp,storeD,hx,ha',ha,hz,hl,hl0]
  have hst:∀tm' hs',evK X tm' [] x=evK X tm [] x→evK X tm' [] a=evK X tm [] a→look hs' n=look hs n→OKtm F tm'→OKhs F hs' →
    StepC F tm' hs' ⟨none,.store t a x,type,pos,after,guard⟩ (some n) (nextC X tm' hs' ⟨none,.store t a x,type,pos,after,guard⟩).1 (nextC X tm' hs' ⟨none,.store t a x,type,pos,after,guard⟩).2 (.lit undef):=by
   intro tm' hs' hx ha' hl ht hh
   refine ⟨by simp only [nextC,hev tm' hs' hx ha' hl],.inl rfl,fun k hk=>?_,fun o ob ho=>?_⟩
   ·simp only [nextC,hev tm' hs' hx ha' hl]
    rw [look_upd,if_neg (fun e=>hk (by rw [e]))]
   ·simp only [nextC,hev tm' hs' hx ha' hl] at ho
    rw [look_upd] at ho
    split at ho
    ·rename_i e
     subst e
     rw [hl,hl0] at ho
     simp only [Option.map_some,Option.some.injEq] at ho
     subst ho
     exact freeL_overL F _ _ _ (freeL_closed F _ hzc) (hh o _ (hl.trans hl0))
    ·exact hh o ob ho
  have htc:∀tm',evK X tm' [] a=evK X tm [] a→touchC X tm' ⟨none,.store t a x,type,pos,after,guard⟩=some n:=by
   intro tm' he;simp only [touchC,he,ha]
  have hok':Nat.ble (off+cs.length) old.length=true:=by
   rw [hev tm hs rfl rfl rfl] at hok;exact hok
  refine ⟨.lit undef,by rw [htc tm rfl];exact hst tm hs rfl rfl rfl ht hh,fun tm' hs' hag ht' hh' hl=>?_⟩
  have hx:=hag x (by simp [Op.operands]) []
  have ha':=hag a (by simp [Op.operands]) []
  have hl':=hl n (.inl (htc tm rfl))
  refine ⟨?_,by rw [htc tm' ha',htc tm rfl],by rw [htc tm rfl];exact hst tm' hs' hx ha' hl' ht' hh',fun k hk=>?_⟩
  ·simp only [okC,hev tm' hs' hx ha' hl',hok',ha',h1,hx,h2];rfl
  ·rw [htc tm rfl] at hk
   simp only [Option.some.injEq] at hk
   subst hk
   simp only [nextC,hev tm hs rfl rfl rfl,hev tm' hs' hx ha' hl']
   rw [look_upd,look_upd,if_pos rfl,if_pos rfl,hl']
 all_goals (exfalso;simp only [Bool.and_eq_true] at h;first | exact hp h.1 | (split at h<;>simp_all))
theorem astep_next {ops:Array Oper} {i:Nat} {o:Oper} {tm tm1:List (D α)} {hs hs1:Obs α} {W:Bool} (h:AStep X ops i o tm hs tm1 hs1 W) (hg:o.guard=none):nextC X tm hs o=(tm1,hs1):=by
 have hgd:∀q,guardD ops i tm o=some q→q=([],true):=by
  intro q hq
  unfold guardD at hq
  rw [hg] at hq
  simpa using hq.symm
 cases h with
 | quiet q hq hc hok =>
  have:=hgd q hq
  subst this
  simp only [nextC,hc,wrapG]
 | write q hq tm' hs' hc h2 hok =>
  have:=hgd q hq
  subst this
  simp only [nextC,hc]
 | off q hq h2 =>
  have:=hgd q hq
  subst this
  simp at h2
 | on q hq hc h2 hok =>
  have:=hgd q hq
  subst this
  simp only [nextC,hc]
theorem astep_ok {ops:Array Oper} {i:Nat} {o:Oper} {tm tm1:List (D α)} {hs hs1:Obs α} {W:Bool} (h:AStep X ops i o tm hs tm1 hs1 W) (hg:o.guard=none):(evalOp X tm hs [] o).ok=true:=by
 have hgd:∀q,guardD ops i tm o=some q→q=([],true):=by
  intro q hq
  unfold guardD at hq
  rw [hg] at hq
  simpa using hq.symm
 cases h with
 | quiet q hq hc hok =>
  have:=hgd q hq
  subst this
  simpa using hok
 | write q hq tm' hs' hc h2 hok =>
  have:=hgd q hq
  subst this
  exact hok
 | off q hq h2 =>
  have:=hgd q hq
  subst this
  simp at h2
 | on q hq hc h2 hok =>
  have:=hgd q hq
  subst this
  exact hok
theorem okC_of {tm:List (D α)} {hs:Obs α} {o:Oper} (h:(evalOp X tm hs [] o).ok=true) (hcl:isCall o=false) (h0:okC0 X F tm hs o=true):okC X F tm hs o=true:=by
 unfold okC
 rw [h,Bool.true_and]
 obtain ⟨dst,op,type,pos,after,guard⟩:=o
 cases op
 case call cl =>
  obtain ⟨callee,args,argTypes⟩:=cl
  cases callee with
  | value f=>simp [isCall] at hcl
  | _=>simp [okC0,pureOp] at h0
 all_goals first | exact h0 | (cases dst<;>exact h0)
theorem not_closed_put {m:Nat}:∀(k:List Nat) (e x:D α),atP k e=some x→closed (putP k (.arr m) e)=false
 | [],e,x,_=>by simp [putP,closed]
 | i::r,e,x,h=>by
  have hset:∀(l:List (D α)) (i:Nat) (y:D α),i < l.length→closed y=false→closedL (setT l i y)=false:=by
   intro l
   induction l with
   | nil=>intro i y hi;simp at hi
   | cons c r ih =>
    intro i y hi hy
    cases i with
    | zero=>simp [setT,closedL,hy]
    | succ i=>simp [setT,closedL,ih i y (by simpa using hi) hy]
  cases e<;>simp only [atP,reduceCtorEq] at h
  case agg cs =>
   split at h
   ·rename_i c hc
    simp only [putP,hc,closed]
    have hi:i < cs.length:=by
     rcases Nat.lt_or_ge i cs.length with h' | h'
     ·exact h'
     ·simp [List.getElem?_eq_none h'] at hc
    exact hset cs i _ hi (not_closed_put r c x h)
   ·simp at h
  case tup cs =>
   split at h
   ·rename_i c hc
    simp only [putP,hc,closed]
    have hi:i < cs.length:=by
     rcases Nat.lt_or_ge i cs.length with h' | h'
     ·exact h'
     ·simp [List.getElem?_eq_none h'] at hc
    exact hset cs i _ hi (not_closed_put r c x h)
   ·simp at h
theorem okC_call {tm:List (D α)} {hs:Obs α} {o:Oper} (hok:(evalOp X tm hs [] o).ok=true) (hcl:isCall o=true) (h1:closedCall X tm o=true) (h2:closedRes (nextC X tm hs o).1 o=true):okC X F tm hs o=true:=by
 have key:(evalOp X tm hs [] o).ch=none∧closed (evalOp X tm hs [] o).d=true∧isOwD (evalOp X tm hs [] o).d=false:=by
  unfold closedRes at h2
  cases hd:o.dst with
  | none=>rw [hd] at h2;simp at h2
  | some d =>
   rw [hd] at h2
   simp only [Bool.and_eq_true,Nat.blt_eq,Bool.not_eq_true'] at h2
   obtain ⟨hlt,hc,ho⟩:=h2
   have hres:∀tm1 hs1 v,nextC X tm hs o=(putT tm1 o.dst v,hs1)→getT (nextC X tm hs o).1 d=v:=by
    intro tm1 hs1 v h
    rw [h] at hlt ⊢
    rw [hd] at hlt ⊢
    simp only [putT,setT_length] at hlt ⊢
    rw [getT_set,if_pos ⟨rfl,hlt⟩]
   have hg:getT (nextC X tm hs o).1 d=(evalOp X tm hs [] o).d:=by
    cases hch:(evalOp X tm hs [] o).ch with
    | none=>exact hres tm hs _ (by simp only [nextC,hch])
    | some q=>exact hres q.1 q.2 _ (by simp only [nextC,hch])
   rw [hg] at hc ho
   refine ⟨?_,hc,ho⟩
   obtain ⟨dst,op,type,pos,after,guard⟩:=o
   simp only at hd
   subst hd
   unfold closedCall at h1
   cases op<;>simp only [Bool.false_eq_true] at h1
   rename_i cl
   obtain ⟨callee,args,argTypes⟩:=cl
   cases callee with
   | invoke r m=>simp at h1
   | builtin b=>simp at h1
   | value f =>
    simp only at h1
    simp only [evalOp] at hc ho hok ⊢
    cases hf:evK X tm [] f with
    | fn g cs =>
     rw [hf] at h1 hc ho hok
     simp only [Bool.and_eq_true,Bool.not_eq_true'] at h1 hc ho hok ⊢
     obtain ⟨hm,hcl'⟩:=h1
     generalize capA g cs (args.toList.map (evK X tm []))=l at hcl' hc ho hok
     unfold callD at hc ho hok ⊢
     rw [hm] at hc ho hok ⊢
     simp only [cond_false] at hc ho hok ⊢
     cases hl:(bif Nat.blt (fnId g) 1000000 then lendAll X.C hs l else none) with
     | none=>rfl
     | some q =>
      obtain ⟨ds,ns⟩:=q
      have hns:ns=[]:=by
       revert hl
       cases Nat.blt (fnId g) 1000000 with
       | false=>simp
       | true=>intro hl;exact (lendAll_cl X.C hs hs l hcl').2 ds ns hl
      subst hns
      rw [hl] at hc ho hok
      simp only at hc ho hok ⊢
      cases hR:X.R (fnId g) ds with
      | none=>rfl
      | some q =>
       obtain ⟨b,e⟩:=q
       rw [hR] at hc ho hok
       simp only at hc ho hok ⊢
       cases hb:bindD hs (some d) e with
       | some q =>
        obtain ⟨m,p,e'⟩:=q
        rw [hb] at hc
        exfalso
        unfold bindD at hb
        split at hb
        ·split at hb
         ·rename_i ha _
          simp only [Option.some.injEq,Prod.mk.injEq] at hb
          obtain ⟨rfl,_,rfl⟩:=hb
          simp only at hc
          rw [not_closed_put _ _ _ ha] at hc
          simp at hc
         ·simp at hb
        ·simp at hb
       | none=>simp [isNil]
    | _=>rw [hf] at h1;simp at h1
 obtain ⟨k1,k2,k3⟩:=key
 obtain ⟨dst,op,type,pos,after,guard⟩:=o
 cases op<;>simp only [isCall] at hcl<;>try (simp at hcl;done)
 simp only [okC,hok,h1,k1,k2,k3]
 rfl
theorem next_astep {ops:Array Oper} {i:Nat} {o:Oper} {tm:List (D α)} {hs:Obs α} (hg:o.guard=none) (hok:(evalOp X tm hs [] o).ok=true) :
  ∃W,AStep X ops i o tm hs (nextC X tm hs o).1 (nextC X tm hs o).2 W:=by
 have hgd:guardD ops i tm o=some ([],true):=by unfold guardD;rw [hg]
 cases hc:(evalOp X tm hs [] o).ch with
 | none =>
  refine ⟨false,?_⟩
  have:=AStep.on (X:=X) (hs:=hs) ([],true) hgd hc rfl hok
  simpa only [nextC,hc] using this
 | some q =>
  refine ⟨true,?_⟩
  have:=AStep.write (X:=X) (hs:=hs) ([],true) hgd q.1 q.2 hc rfl hok
  simpa only [nextC,hc] using this
theorem stepsW_get {T:Nat→List (D α)} {H:Nat→Obs α}:∀(l:List Oper) (k:Nat) (lg:List (List (D α)×Obs α)),(∀j,j < l.length→lg[j]?=some (T (k+j+1),H (k+j+1))) →
  ∀(i:Nat) o,l[i]?=some o→(stepsW l (T k,H k) lg)[i]?=some (o,(T (k+i),H (k+i)),(T (k+i+1),H (k+i+1)))
 | [],k,lg,_,i,o,h=>by simp at h
 | o::r,k,lg,hlg,i,o',ho=>by
  have h0:=hlg 0 (by simp)
  cases lg with
  | nil=>simp at h0
  | cons s' l =>
   simp only [List.getElem?_cons_zero,Option.some.injEq,Nat.add_zero] at h0
   subst h0
   cases i with
   | zero =>
    simp only [List.getElem?_cons_zero,Option.some.injEq] at ho
    subst ho
    rfl
   | succ i =>
    simp only [stepsW,List.getElem?_cons_succ]
    have:=stepsW_get r (k+1) l (fun j hj=>by
     have:=hlg (j+1) (by simpa using hj)
     simpa [show k+(j+1)+1=k+1+j+1 by omega] using this) i o' (by simpa using ho)
    rw [this,show k+1+i=k+(i+1) by omega]
theorem runC_spec:∀(l:List (Oper×(List (D α)×Obs α)×(List (D α)×Obs α))) (tl:List (Option Nat)),runC X F l=some tl→∀(i:Nat) o s s',l[i]?=some (o,s,s') →
  o.guard=none∧(bif isCall o then closedCall X s.1 o&&closedRes s'.1 o else okC0 X F s.1 s.2 o)=true∧tl[i]?=some (touchC X s.1 o)
 | [],tl,_,i,o,s,s',h=>by simp at h
 | (o,s,s')::r,tl,h,i,o',t,t',ho=>by
  simp only [runC] at h
  cases hb:o.guard.isNone&&(bif isCall o then closedCall X s.1 o&&closedRes s'.1 o else okC0 X F s.1 s.2 o) with
  | false=>rw [hb] at h;simp at h
  | true =>
   rw [hb] at h
   rw [Bool.and_eq_true,Option.isNone_iff_eq_none] at hb
   simp only [cond_true] at h
   split at h
   ·rename_i l hl
    simp only [Option.some.injEq] at h
    subst h
    cases i with
    | zero =>
     simp only [List.getElem?_cons_zero,Option.some.injEq,Prod.mk.injEq] at ho
     obtain ⟨rfl,rfl,rfl⟩:=ho
     exact ⟨hb.1,hb.2,rfl⟩
    | succ i=>simpa using runC_spec r l hl i o' t t' (by simpa using ho)
   ·simp at h
section
variable {ops:Array Oper} {T:Nat→List (D α)} {H:Nat→Obs α}
structure RunC (X:Ctx α) (F:List Nat) (ops:Array Oper) (T:Nat→List (D α)) (H:Nat→Obs α):Prop where
 next:∀(i:Nat) o,ops[i]?=some o→nextC X (T i) (H i) o=(T (i+1),H (i+1))
 guard:∀(i:Nat) o,ops[i]?=some o→o.guard=none
 ok:∀(i:Nat) o,ops[i]?=some o→okC X F (T i) (H i) o=true
 okt:OKtm F (T 0)
 okh:OKhs F (H 0)
 back:∀(j:Nat) o,ops[j]?=some o→∀e∈o.after,Region.binds .any e=true→e.on < j
 pair:∀(i j:Nat) oi oj,i < j→ops[i]?=some oi→ops[j]?=some oj→Pre ops j i∨((∀k,touchC X (T i) oi=some k→touchC X (T j) oj≠some k)∧(∀d,oi.dst=some d→d ∉ tmpsOf ops oj)∧∀d,oj.dst=some d→d ∉ tmpsOf ops oi)
theorem drawC_spec {lg:List (List (D α)×Obs α)} (hst:∀(i:Nat) o,ops[i]?=some o→∃W,AStep X ops i o (T i) (H i) (T (i+1)) (H (i+1)) W) (hlg:∀j,j < ops.size→lg[j]?=some (T (j+1),H (j+1))) (h:drawC X ops lg (T 0) (H 0)=true):RunC X (makers ops.toList) ops T H:=by
 simp only [drawC,Bool.and_eq_true] at h
 obtain ⟨⟨⟨h1,h2⟩,h3⟩,h4⟩:=h
 have hsteps:∀(i:Nat) o,ops[i]?=some o→(stepsW ops.toList (T 0,H 0) lg)[i]?=some (o,(T i,H i),(T (i+1),H (i+1))):=by
  intro i o ho
  have:=stepsW_get (T:=T) (H:=H) ops.toList 0 lg (fun j hj=>by rw [Nat.zero_add];exact hlg j (by simpa using hj)) i o (by simpa using ho)
  simpa using this
 generalize stepsW ops.toList (T 0,H 0) lg=st at h4 hsteps
 cases hr:runC X (makers ops.toList) st with
 | none=>rw [hr] at h4;simp at h4
 | some tl =>
 rw [hr] at h4
 have hnext:∀(i:Nat) o,ops[i]?=some o→o.guard=none→nextC X (T i) (H i) o=(T (i+1),H (i+1)):=by
  intro i o ho hg
  obtain ⟨W,st⟩:=hst i o ho
  exact astep_next st hg
 have hsp':∀(i:Nat) o,ops[i]?=some o→o.guard=none∧okC X (makers ops.toList) (T i) (H i) o=true∧tl[i]?=some (touchC X (T i) o):=fun i o ho=>by
  obtain ⟨g1,g2,g3⟩:=runC_spec st tl hr i o _ _ (hsteps i o ho)
  obtain ⟨W,st⟩:=hst i o ho
  refine ⟨g1,?_,g3⟩
  cases hcl:isCall o with
  | false=>rw [hcl] at g2;exact okC_of (astep_ok st g1) hcl g2
  | true =>
   rw [hcl] at g2
   simp only [cond_true,Bool.and_eq_true] at g2
   exact okC_call (astep_ok st g1) hcl g2.1 (by rw [hnext i o ho g1];exact g2.2)
 have hlt:∀{j:Nat} {o:Oper},ops[j]?=some o→j < ops.size:=by
  intro j o hj
  rcases Nat.lt_or_ge j ops.size with h | h
  ·exact h
  ·simp [Array.getElem?_eq_none h] at hj
 refine ⟨fun i o ho=>hnext i o ho (hsp' i o ho).1,fun i o ho=>(hsp' i o ho).1,fun i o ho=>(hsp' i o ho).2.1,fun t=>by simpa using freeT_spec _ _ 0 h1 t,freeH_spec _ _ h2,fun j o ho e he hb=>?_,fun i j oi oj hij hi hj=>?_⟩
 ·have:=backOK_spec ops.toList 0 h3 j o (by simpa using ho) e he hb
  omega
 ·simp only [List.all_eq_true,List.mem_range] at h4
  have:=h4 j (hlt hj) i hij
  simp only [hi,hj,(hsp' i oi hi).2.2,(hsp' j oj hj).2.2,Option.getD_some,Bool.or_eq_true,Bool.and_eq_true,Bool.not_eq_true'] at this
  rcases this with h | ⟨⟨h1,h3⟩,h4⟩
  ·exact .inl h
  ·refine .inr ⟨fun k hk hk'=>?_,fun d hd=>?_,fun d hd=>?_⟩
   ·rw [hk,hk'] at h1
    simp [sameO] at h1
   ·rw [hd] at h3
    simp only [Bool.not_eq_true'] at h3
    intro hm
    rw [←memN_iff] at hm
    rw [h3] at hm;simp at hm
   ·rw [hd] at h4
    simp only [Bool.not_eq_true'] at h4
    intro hm
    rw [←memN_iff] at hm
    rw [h4] at hm;simp at hm
theorem RunC.ok_at (hC:RunC X F ops T H):∀i,i≤ops.size→OKtm F (T i)∧OKhs F (H i)
 | 0,_=>⟨hC.okt,hC.okh⟩
 | i+1,hi=>by
  obtain ⟨h1,h2⟩:=hC.ok_at i (by omega)
  have ho:ops[i]?=some ops[i]:=by simp [show i < ops.size by omega]
  obtain ⟨v,hs,_⟩:=okC_step (hC.ok i _ ho) h1 h2
  rw [hC.next i _ ho] at hs
  have e:T (i+1)=putT (T i) (ops[i]).dst v:=hs.tm1
  exact ⟨by rw [e];exact h1.put hs.fv,hs.okh⟩
theorem RunC.put_run (hC:RunC X F ops T H):∀(c:Nat),c≤ops.size→(T c).length=(T 0).length∧(∀t,(∀i,i < c→slotOf ops i≠some t)→getT (T c) t=getT (T 0) t) ∧
  ∀b t,b≤c→(∀i,b≤i→i < c→slotOf ops i≠some t)→getT (T c) t=getT (T b) t
 | 0,_=>⟨rfl,fun _ _=>rfl,fun b t hb _=>by rw [show b=0 by omega]⟩
 | c+1,hc=>by
  obtain ⟨h1,h2,h3⟩:=hC.put_run c (by omega)
  have ho:ops[c]?=some ops[c]:=by simp [show c < ops.size by omega]
  obtain ⟨k1,k2⟩:=hC.ok_at c (by omega)
  obtain ⟨v,hs,_⟩:=okC_step (hC.ok c _ ho) k1 k2
  rw [hC.next c _ ho] at hs
  have h5:=hs.tm1
  simp only at h5
  have hne:∀t,slotOf ops c≠some t→getT (T (c+1)) t=getT (T c) t:=by
   intro t ht
   rw [h5,getT_put,if_neg (fun h=>ht (by rw [slot_dst ho];exact h.1))]
  refine ⟨by rw [h5,putT_length];exact h1,fun t ht=>?_,fun b t hb ht=>?_⟩
  ·rw [hne t (ht c (by omega)),h2 t fun i hi=>ht i (by omega)]
  ·rcases Nat.lt_or_ge b (c+1) with h | h
   ·rw [hne t (ht c (by omega) (by omega)),h3 b t (by omega) fun i hi hi'=>ht i hi (by omega)]
   ·rw [show b=c+1 by omega]
theorem RunC.obj_run (hC:RunC X F ops T H) (k b:Nat):∀(m:Nat),b+m≤ops.size→(∀i oi,b≤i→i < b+m→ops[i]?=some oi→touchC X (T i) oi≠some k)→look (H (b+m)) k=look (H b) k
 | 0,_,_=>rfl
 | m+1,hm,ht=>by
  have ih:=hC.obj_run k b m (by omega) fun i oi h1 h2=>ht i oi h1 (by omega)
  have ho:ops[b+m]?=some ops[b+m]:=by simp [show b+m < ops.size by omega]
  obtain ⟨k1,k2⟩:=hC.ok_at (b+m) (by omega)
  obtain ⟨v,hs,_⟩:=okC_step (hC.ok (b+m) _ ho) k1 k2
  rw [hC.next (b+m) _ ho] at hs
  have:=hs.other k (ht (b+m) _ (by omega) (by omega) ho)
  rw [show b+(m+1)=b+m+1 by omega]
  exact this.trans ih
structure CInv (X:Ctx α) (F:List Nat) (ops:Array Oper) (T:Nat→List (D α)) (H:Nat→Obs α) (L:Nat→Prop) (tm:List (D α)) (hs:Obs α):Prop where
 len:tm.length=(T 0).length
 okt:OKtm F tm
 okh:OKhs F hs
 done:∀i t,L i→slotOf ops i=some t→getT tm t=getT (T (i+1)) t
 rest:∀t,(∀i,L i→slotOf ops i≠some t)→getT tm t=getT (T 0) t
 obj:∀k,∃b,b≤ops.size∧(∀(i:Nat) oi,ops[i]?=some oi→touchC X (T i) oi=some k→(L i↔i < b))∧look hs k=look (H b) k
theorem CInv.step (hC:RunC X F ops T H) (hdis:∀(i j:Nat) s,slotOf ops i=some s→slotOf ops j=some s→i=j) {L:Nat→Prop} {tm:List (D α)} {hs:Obs α} (hI:CInv X F ops T H L tm hs)
  (hdown:∀j,L j→∀i,Pre ops j i→L i) (hLn:∀j,L j→j < ops.size) {i:Nat} {o:Oper} (ho:ops[i]?=some o) (hiL:¬ L i) (hpre:∀j,Pre ops i j→L j) :
  ∃W tm1 hs1,AStep X ops i o tm hs tm1 hs1 W∧CInv X F ops T H (fun j=>L j∨j=i) tm1 hs1:=by
 have hin:i < ops.size:=by
  rcases Nat.lt_or_ge i ops.size with h | h
  ·exact h
  ·simp [Array.getElem?_eq_none h] at ho
 have hget:∀j,j < ops.size→∃oj,ops[j]?=some oj:=fun j hj=>⟨ops[j],by simp [hj]⟩
 obtain ⟨r1,r2,r3⟩:=hC.put_run i (by omega)
 have hag:∀t∈tmpsOf ops o,getT tm t=getT (T i) t:=by
  intro t ht
  by_cases h:∃j,j < i∧slotOf ops j=some t
  ·obtain ⟨j,h1,h2⟩:=h
   obtain ⟨oj,hoj⟩:=hget j (by omega)
   have hL:L j:=by
    rcases hC.pair j i oj o h1 hoj ho with h | ⟨_,h,_⟩
    ·exact hpre j h
    ·exact absurd ht (h t (by rw [←slot_dst hoj];exact h2))
   rw [hI.done j t hL h2,r3 (j+1) t h1 fun k hk hk' hs'=>by have:=hdis j k t h2 hs';omega]
  ·rw [r2 t fun j hj hs'=>h ⟨j,hj,hs'⟩]
   refine hI.rest t fun j hL hs'=>?_
   rcases Nat.lt_trichotomy j i with h' | h' | h'
   ·exact h ⟨j,h',hs'⟩
   ·subst h';exact hiL hL
   ·obtain ⟨oj,hoj⟩:=hget j (hLn j hL)
    rcases hC.pair i j o oj h' ho hoj with h'' | ⟨_,_,h''⟩
    ·exact hiL (hdown j hL i h'')
    ·exact h'' t (by rw [←slot_dst hoj];exact hs') ht
 have hopd:∀x∈o.op.operands,∀ks,evK X tm ks x=evK X (T i) ks x:=by
  intro x hx ks'
  refine evK_congr (fun t ht=>hag t ?_) ks'
  subst ht
  simp only [tmpsOf,List.mem_append,List.mem_filterMap]
  exact .inl ⟨.tmp t,by simpa using hx,rfl⟩
 have htouch:∀(j:Nat) oj k,ops[j]?=some oj→touchC X (T i) o=some k→touchC X (T j) oj=some k→j≠i→(L j↔j < i):=by
  intro j oj k hoj h1 h2 hne
  constructor
  ·intro hL
   rcases Nat.lt_trichotomy j i with h | h | h
   ·exact h
   ·exact absurd h hne
   ·rcases hC.pair i j o oj h ho hoj with h' | ⟨h',_⟩
    ·exact absurd (hdown j hL i h') hiL
    ·exact absurd h2 (h' k h1)
  ·intro h
   rcases hC.pair j i oj o h hoj ho with h' | ⟨h',_⟩
   ·exact hpre j h'
   ·exact absurd h1 (h' k h2)
 obtain ⟨k1,k2⟩:=hC.ok_at i (by omega)
 obtain ⟨v,hsT,htr⟩:=okC_step (hC.ok i _ ho) k1 k2
 have hno:∀k,k ∉ F→∀(j:Nat) oj,ops[j]?=some oj→touchC X (T j) oj≠some k:=by
  intro k hk j oj hoj hj
  have hokj:=hC.ok j oj hoj
  obtain ⟨dst,op,type,pos,after,guard⟩:=oj
  simp only [okC,Bool.and_eq_true] at hokj
  cases op<;>simp only [touchC] at hj<;>try (simp at hj;done)
  case alloc t =>
   cases dst with
   | none=>simp at hj
   | some d =>
    simp only [Option.some.injEq] at hj
    subst hj
    exact hk ((memN_iff F d).1 (by have:=hokj.2;simp only [Bool.and_eq_true] at this;exact this.1))
  case box t x =>
   cases dst with
   | none=>simp at hj
   | some d =>
    simp only [Option.some.injEq] at hj
    subst hj
    exact hk ((memN_iff F d).1 (by have:=hokj.2;simp only [Bool.and_eq_true] at this;exact this.1))
  case store t a x =>
   cases dst with
   | some d=>simp at hj
   | none =>
    simp only at hj
    split at hj
    ·rename_i n off ha
     simp only [Option.some.injEq] at hj
     subst hj
     have:=hokj.2
     simp only [Bool.and_eq_true,ha,addrIn] at this
     cases hm:memN F n with
     | true=>exact hk ((memN_iff F n).1 hm)
     | false=>rw [hm] at this;simp at this
    ·simp at hj
 have hlook:∀k,(touchC X (T i) o=some k∨k ∉ F)→look hs k=look (H i) k:=by
  intro k hk
  obtain ⟨b,hb,hLb,hlk⟩:=hI.obj k
  rw [hlk]
  rcases hk with hk | hk
  ·have hbi:b≤i:=by
    rcases Nat.lt_or_ge i b with h | h
    ·exact absurd ((hLb i o ho hk).2 h) hiL
    ·exact h
   obtain ⟨m,hm⟩:=Nat.exists_eq_add_of_le hbi
   have:=hC.obj_run k b m (by omega) fun j oj h1 h2 hoj hj=>by
    have h3:=(htouch j oj k hoj hk hj (by omega)).2 (by omega)
    have:=(hLb j oj hoj hj).1 h3
    omega
   rw [←hm] at this
   exact this.symm
  ·rcases Nat.le_total b i with h | h
   ·obtain ⟨m,hm⟩:=Nat.exists_eq_add_of_le h
    have:=hC.obj_run k b m (by omega) fun j oj _ _ hoj=>hno k hk j oj hoj
    rw [←hm] at this
    exact this.symm
   ·obtain ⟨m,hm⟩:=Nat.exists_eq_add_of_le h
    have:=hC.obj_run k i m (by omega) fun j oj _ _ hoj=>hno k hk j oj hoj
    rw [←hm] at this
    exact this
 obtain ⟨e1,e2,e3,e4⟩:=htr tm hs hopd hI.okt hI.okh hlook
 have hok:(evalOp X tm hs [] o).ok=true:=by
  simp only [okC,Bool.and_eq_true] at e1
  exact e1.1
 obtain ⟨W,st⟩:=next_astep (ops:=ops) (i:=i) (hC.guard i o ho) hok
 have hT1:T (i+1)=putT (T i) o.dst v:=by have:=hsT.tm1;rw [hC.next i o ho] at this;exact this
 refine ⟨W,_,_,st,?_,?_,e3.okh,fun j t hL hsl=>?_,fun t ht=>?_,fun k=>?_⟩
 ·rw [e3.tm1,putT_length];exact hI.len
 ·rw [e3.tm1];exact hI.okt.put e3.fv
 ·rw [e3.tm1,getT_put]
  rcases hL with h | rfl
  ·rw [if_neg,hI.done j t h hsl]
   rintro ⟨h1,_⟩
   have:=hdis i j t (by rw [slot_dst ho];exact h1) hsl
   subst this
   exact hiL h
  ·rw [hT1,getT_put,hI.len,r1]
   rw [slot_dst ho] at hsl
   by_cases h:t < (T 0).length
   ·rw [if_pos ⟨hsl,h⟩,if_pos ⟨hsl,h⟩]
   ·rw [if_neg (fun h'=>h h'.2),if_neg (fun h'=>h h'.2),getT_out _ _ (by have:=hI.len;omega),getT_out _ _ (by omega)]
 ·rw [e3.tm1,getT_put,if_neg,hI.rest t fun j h2 h3=>ht j (.inl h2) h3]
  rintro ⟨h1,_⟩
  exact ht i (.inr rfl) (by rw [slot_dst ho];exact h1)
 ·by_cases hk:touchC X (T i) o=some k
  ·refine ⟨i+1,by omega,fun j oj hoj hj=>?_,?_⟩
   ·by_cases hji:j=i
    ·subst hji;exact ⟨fun _=>by omega,fun _=>.inr rfl⟩
    ·have:=htouch j oj k hoj hk hj hji
     constructor
     ·rintro (h | h)
      ·have:=this.1 h;omega
      ·exact absurd h hji
     ·intro h;exact .inl (this.2 (by omega))
   ·rw [e4 k hk,hC.next i o ho]
  ·obtain ⟨b,hb,hLb,hlk⟩:=hI.obj k
   refine ⟨b,hb,fun j oj hoj hj=>?_,?_⟩
   ·have hji:j≠i:=by
     intro h
     subst h
     rw [ho] at hoj
     simp only [Option.some.injEq] at hoj
     subst hoj
     exact hk hj
    rw [←hLb j oj hoj hj]
    exact ⟨fun h=>h.resolve_right hji,.inl⟩
   ·rw [e3.other k hk];exact hlk
theorem CInv.fin (hC:RunC X F ops T H) (hdis:∀(i j:Nat) s,slotOf ops i=some s→slotOf ops j=some s→i=j) {L:Nat→Prop} {tm:List (D α)} {hs:Obs α} (hI:CInv X F ops T H L tm hs) (hall:∀i,i < ops.size→L i) :
  tm=T ops.size∧∀k,look hs k=look (H ops.size) k:=by
 obtain ⟨r1,r2,r3⟩:=hC.put_run ops.size (Nat.le_refl _)
 refine ⟨ext_getT (hI.len.trans r1.symm) fun t=>?_,fun k=>?_⟩
 ·by_cases h:∃j,j < ops.size∧slotOf ops j=some t
  ·obtain ⟨j,h1,h2⟩:=h
   rw [hI.done j t (hall j h1) h2,r3 (j+1) t h1 fun k hk hk' hs'=>by have:=hdis j k t h2 hs';omega]
  ·rw [r2 t fun j hj hs'=>h ⟨j,hj,hs'⟩]
   refine hI.rest t fun j hL hs'=>h ⟨j,?_,hs'⟩
   unfold slotOf at hs'
   rcases Nat.lt_or_ge j ops.size with h | h
   ·exact h
   ·simp [Array.getElem?_eq_none h] at hs'
 ·obtain ⟨b,hb,hLb,hlk⟩:=hI.obj k
  rw [hlk]
  obtain ⟨m,hm⟩:=Nat.exists_eq_add_of_le hb
  have:=hC.obj_run k b m (by omega) fun j oj h1 h2 hoj hj=>by
   have:=(hLb j oj hoj hj).1 (hall j (by omega))
   omega
  rw [←hm] at this
  exact this.symm
end
theorem Sim.eqv {g:Gh} {tm:List (D α)} {hs hs':Obs α} {a:Act} {w:World} (hS:Sim X g tm hs a w) (h:∀k,look hs k=look hs' k):Sim X g tm hs' a w:=by
 have hcx:cxOf g hs' w=cxOf g hs w:=by simp only [cxOf,h]
 refine ⟨hS.size,fun t=>by rw [hcx];exact hS.tm t,hS.dfr,fun o ob ho=>by rw [hcx];exact hS.obs o ob ((h o).trans ho),fun o o' ob ob' b h1 h2=>hS.inj o o' ob ob' b ((h o).trans h1) ((h o').trans h2),fun o ob b h1=>hS.own o ob b ((h o).trans h1),hS.below,hS.av0,hS.lav,fun c b hc=>⟨(hS.top c b hc).1,(hS.top c b hc).2.1,fun x hx=>(hS.top c b hc).2.2 x ((h c).trans hx)⟩,hS.glob⟩
end
end Go.Eng
