/-
 THE ENGINE, PART E: OPERATIONS THAT TURN NOTHING.
-/
import Derived.Test.YtcgbgcconigdbaaGreatDoorEngC
import Derived.OpenShut
import Derived.WalkLawsBesides
namespace Go.Eng
open Go.RowKit
variable {α:Type}
structure XOk (X:Ctx α):Prop where
 pay:PayOk X.C
 plain:∀t,X.plainT t=true→X.P.stoodInHeld t=false∧X.P.eqGuardType X.P.depth t=false
 mixed:X.P.follows .mixedOrders=true
theorem lo_min (k:IntKind):lo k=k.min:=by cases k<;>decide
theorem hi_max (k:IntKind):hi k=k.max:=by cases k<;>decide
theorem inR_wf (k:IntKind) (n:Int):inR k n=(Lit.int k n).wf:=by
 simp [inR,Lit.wf,lo_min,hi_max]
theorem inR_wrap (k:IntKind) (n:Int):inR k (k.wrap n)=true:=by rw [inR_wf];exact wf_wrap k n
theorem tmod_between (a b:Int):(0≤a→0≤a.tmod b∧a.tmod b≤a)∧(a≤0→a≤a.tmod b∧a.tmod b≤0):=by
 have h:∀a b:Int,0≤a→0≤a.tmod b∧a.tmod b≤a:=by
  intro a b ha
  refine ⟨Int.tmod_nonneg b ha,?_⟩
  rw [Int.tmod_eq_emod_of_nonneg ha]
  by_cases hb:b=0
  ·subst hb;simp
  ·rcases Int.lt_or_lt_of_ne hb with h | h
   ·rw [←Int.emod_neg]
    have h1:=Int.emod_nonneg a (b:=-b) (by omega)
    have h2:=Int.ediv_mul_add_emod a (-b)
    have h3:0≤a / (-b):=Int.ediv_nonneg ha (by omega)
    have h4:0≤a / (-b) * (-b):=Int.mul_nonneg h3 (by omega)
    omega
   ·have h2:=Int.ediv_mul_add_emod a b
    have h3:0≤a / b:=Int.ediv_nonneg ha (by omega)
    have h4:0≤a / b * b:=Int.mul_nonneg h3 (by omega)
    omega
 refine ⟨h a b,fun ha=>?_⟩
 have:=h (-a) b (by omega)
 rw [Int.neg_tmod] at this
 omega
theorem inR_tmod (k:IntKind) (a b:Int) (h:inR k a=true):inR k (a.tmod b)=true:=by
 obtain ⟨h1,h2⟩:=inR_of h
 have hlo:lo k≤0:=by cases k<;>simp [lo]
 have hhi:0≤hi k:=by cases k<;>simp [hi]
 have:=tmod_between a b
 simp only [inR,Bool.and_eq_true,decide_eq_true_eq]
 by_cases ha:0≤a
 ·have:=this.1 ha;omega
 ·have:=this.2 (by omega);omega
theorem inR_fdiv (k:IntKind) (a:Int) (n:Nat) (h:inR k a=true):inR k (a.fdiv (2 ^ n))=true:=by
 obtain ⟨h1,h2⟩:=inR_of h
 have hlo:lo k≤0:=by cases k<;>simp [lo]
 have hhi:0≤hi k:=by cases k<;>simp [hi]
 have hp:(0:Int) < 2 ^ n:=Int.pow_pos (by omega)
 rw [Int.fdiv_eq_ediv_of_nonneg _ (by omega)]
 simp only [inR,Bool.and_eq_true,decide_eq_true_eq]
 have h3:=Int.ediv_mul_add_emod a (2 ^ n)
 have h4:=Int.emod_nonneg a (b:=2 ^ n) (by omega)
 have h5:=Int.emod_lt_of_pos a hp
 by_cases ha:0≤a
 ·have:=Int.ediv_nonneg ha (Int.le_of_lt hp)
  have:=Int.ediv_le_self (2 ^ n) ha
  omega
 ·have h6:a / 2 ^ n < 0:=Int.ediv_neg_of_neg_of_pos (by omega) hp
  have h7:a≤a / 2 ^ n:=by
   have:a / 2 ^ n * 2 ^ n≤a / 2 ^ n * 1:=Int.mul_le_mul_of_nonpos_left (by omega) (by omega)
   have h8:a < a / 2 ^ n * 2 ^ n+2 ^ n:=by omega
   rcases Int.lt_or_le (a / 2 ^ n) a with h9 | h9
   ·exfalso
    have h10:a / 2 ^ n+1≤a:=by omega
    have h11:(a / 2 ^ n+1) * 2 ^ n≤(a / 2 ^ n+1) * 1:=Int.mul_le_mul_of_nonpos_left (by omega) (by omega)
    rw [Int.add_mul] at h11
    omega
   ·exact h9
  omega
theorem inR_bits (op:BinOp) (k:IntKind) (x y:Int):inR k (bitsE op k x y)=true:=by
 unfold bitsE
 cases op<;>exact inR_wrap _ _
section
variable {C:Pay α} {cx:Cx α} (P:Program) (w:World)
theorem intOp_sound (op:BinOp) (k:IntKind) (a b:Int) (ha:inR k a=true) (_hb:inR k b=true) (t:TypeId) (hok:(intOp (α:=α) op k a b).ok=true) :
  ∃v,(binOp op t (.int k a) (.int k b)).run P w=.ok v w∧RD C cx v (intOp op k a b).d∧(intOp (α:=α) op k a b).ch=none:=by
 cases op<;>simp only [intOp,Res.v,Res.if,Res.no,Bool.false_eq_true] at hok ⊢
 case quo =>
  refine ⟨.int k (k.wrap (a.tdiv b)),?_,.int _ _ (inR_wrap _ _),by simp⟩
  simp only [Bool.not_eq_true',beq_eq_false_iff_ne,ne_eq] at hok
  simp [binOp,Op.intDiv,hok]
 case rem =>
  refine ⟨.int k (a.tmod b),?_,.int _ _ (inR_tmod _ _ _ ha),by simp⟩
  simp only [Bool.not_eq_true',beq_eq_false_iff_ne,ne_eq] at hok
  simp [binOp,Op.intDiv,hok]
 case and | or | xor | andNot=>exact ⟨.int k (bitsE _ k a b),by simp [binOp,Op.intBits,bitsE],.int _ _ (inR_bits _ _ _ _),by simp⟩
 case add | sub | mul=>exact ⟨.int k (k.wrap _),by simp [binOp,Op.intArith],.int _ _ (inR_wrap _ _),by simp⟩
 all_goals exact ⟨.bool _,by simp [binOp,Op.intCmp],.bool _,by simp⟩
theorem shiftOp_sound (op:BinOp) (k k':IntKind) (a b:Int) (ha:inR k a=true) (t:TypeId)
  (hok:(shiftOp (α:=α) op k a b).ok=true) :
  ∃v,(binOp op t (.int k a) (.int k' b)).run P w=.ok v w∧RD C cx v (shiftOp op k a b).d∧(shiftOp (α:=α) op k a b).ch=none:=by
 cases op<;>simp only [shiftOp,Res.if,Res.no,Bool.false_eq_true,decide_eq_true_eq] at hok ⊢
 case shl =>
  refine ⟨.int k (k.wrap (a * 2 ^ (min b.toNat k.bits))),?_,.int _ _ (inR_wrap _ _),by simp⟩
  have:¬ b < 0:=by omega
  simp [binOp,Op.shift,this]
 case shr =>
  refine ⟨.int k (a.fdiv (2 ^ (min b.toNat k.bits))),?_,.int _ _ (inR_fdiv _ _ _ ha),by simp⟩
  have:¬ b < 0:=by omega
  simp [binOp,Op.shift,this]
theorem toList_data (s:ByteArray):s.toList=s.data.toList:=ByteArray.toList_eq s
theorem strOp_sound (op:BinOp) (s u:ByteArray) (t:TypeId)
  (hok:(strOp (α:=α) op s.data.toList u.data.toList).ok=true) :
  ∃v,(binOp op t (.string s) (.string u)).run P w=.ok v w∧RD C cx v (strOp op s.data.toList u.data.toList).d∧(strOp (α:=α) op s.data.toList u.data.toList).ch=none:=by
 cases op<;>simp only [strOp,Res.v,Res.if,Res.no,Bool.false_eq_true] at hok ⊢
 case add =>
  have h:=Nat.le_of_ble_eq_true hok
  have hl:(s++u).data.toList=s.data.toList++u.data.toList:=by rw [ByteArray.data_append,Array.toList_append]
  refine ⟨.string (s++u),?_,.str _ _ hl (by rw [List.length_append];exact h),by first | exact trivial | rfl⟩
  have hsz:∀x:ByteArray,x.size=x.data.toList.length:=fun x=>by show x.data.size=_;exact Array.length_toList.symm
  have:¬ (((s.size+u.size:Nat):Int) > IntKind.i64.max):=by
   rw [hsz,hsz]
   have:IntKind.i64.max=9223372036854775807:=by decide
   rw [this];unfold big at h;omega
  simp only [binOp,Op.stringOp,this,if_false,Sem.run_pure]
 all_goals exact ⟨.bool _,by simp only [binOp,Op.stringOp,toList_data];rfl,.bool _,by simp⟩
theorem run_sizeOf' {t:TypeId} {n:Nat} (h:szO P t=some n):(sizeOf t).run P w=.ok n w:=by
 unfold szO at h
 obtain ⟨i,hi,rfl⟩:=Option.map_eq_some_iff.1 h
 simp [sizeOf,typeInfo,hi]
theorem run_isAgg1 {t:TypeId} (h:shapeT P t=1):(isAgg t).run P w=.ok false w:=by
 unfold shapeT at h
 unfold isAgg
 split at h
 ·simp at h
 ·simp at h
 ·rename_i d hd1 hd2 hd
  simp only [Sem.run_bind,run_underlying hd,Result.andThen_ok]
  cases d<;>first | rfl | (exact absurd hd (hd1 _)) | (exact absurd hd (hd2 _ _))
 ·simp at h
theorem run_isAgg2 {t:TypeId} (h:shapeT P t=2):(isAgg t).run P w=.ok true w:=by
 unfold shapeT at h
 unfold isAgg
 split at h
 ·rename_i hd;simp [run_underlying hd]
 ·rename_i hd;simp [run_underlying hd]
 ·simp at h
 ·simp at h
theorem partD_sound {t:TypeId} {vs:Array Value} {cs:List (D α)} {off:Nat} {d:D α} (hv:RD C cx (.agg vs) (.agg cs)) (h:partD P t cs off=some d) :
  ∃v,(part t vs off).run P w=.ok v w∧RD C cx v d:=by
 cases hv with
 | agg _ _ hs h1 hr =>
 unfold partD at h
 split at h
 ·rename_i n hsh hsz
  simp only [Option.some.injEq] at h
  subst h
  refine ⟨.agg (vs.extract off (off+n)),by simp [part,run_isAgg2 P w hsh,run_sizeOf' P w hsz],.agg _ _ ?_ (fun i v hi=>?_) (fun i v c hi hc=>?_)⟩
  ·simp [hs];omega
  ·rw [Array.getElem?_extract] at hi
   split at hi
   ·exact h1 _ v hi
   ·simp at hi
  ·rw [Array.getElem?_extract] at hi
   rw [List.getElem?_take,List.getElem?_drop] at hc
   split at hi
   ·split at hc
    ·exact hr _ v c hi hc
    ·simp at hc
   ·simp at hi
 ·rename_i hsh
  have:off < vs.size:=by
   rw [hs]
   rcases Nat.lt_or_ge off cs.length with h' | h'
   ·exact h'
   ·simp [List.getElem?_eq_none h'] at h
  have hvo:vs[off]?=some vs[off]:=by simp [this]
  exact ⟨vs[off],by simp [part,run_isAgg1 P w hsh,hvo],hr off _ d hvo h⟩
 ·simp at h
theorem eqD_sound {pt:TypeId→Bool} (hpt:∀t,pt t=true→P.stoodInHeld t=false):∀(n:Nat) (t:TypeId) (vx vy:Value) (x y:D α) (b:Bool),RD C cx vx x→RD C cx vy y →
  eqD P pt n t x y=some b→∀d,n≤d→(Op.equalIn d t vx vy).run P w=.ok b w:=by
 intro n
 induction n with
 | zero=>intro t vx vy x y b _ _ h;simp [eqD] at h
 | succ n ih =>
  intro t vx vy x y b hx hy h d hd
  obtain ⟨d,rfl⟩:∃d',d=d'+1:=⟨d - 1,by omega⟩
  simp only [eqD] at h
  split at h
  ·rename_i hu
   cases hx;cases hy
   simp only [Option.some.injEq] at h
   rw [run_equalIn_bool' w d t _ _ hu,h]
  ·rename_i k0 k a k' b' hu
   cases hx;cases hy
   cases hk:k==k' with
   | false=>simp [hk] at h
   | true =>
    simp only [hk,cond_true,Option.some.injEq] at h
    obtain rfl:=beq_iff_eq.1 hk
    rw [run_equalIn_int w d t k _ _ _ hu,h]
  ·rename_i hu
   cases hx with
   | str s l hs hl=>cases hy with
    | str u l' hu' hl' =>
     simp only [Option.some.injEq] at h
     rw [run_equalIn_string w d t _ _ hu,toList_data,toList_data,hs,hu',h]
  ·rename_i fs xs ys hu
   cases hp:pt t with
   | false=>simp [hp] at h
   | true =>
   simp only [hp,cond_true] at h
   have hx':=hx
   have hy':=hy
   cases hx with
   | agg vxs _ _ _ _=>cases hy with
    | agg vys _ _ _ _ =>
     have hf:P.fieldsOf t=fs:=by simp [Program.fieldsOf,hu]
     rw [run_equalIn_struct w d t vxs vys (by rw [hf];exact hu) (hpt t hp),hf]
     clear hu hf
     generalize fs.toList=l at h
     induction l generalizing b with
     | nil=>simp only [List.foldr_nil,Option.some.injEq] at h;subst h;simp [Op.eqFields]
     | cons f l ihl =>
      simp only [List.foldr_cons] at h
      split at h
      ·rename_i r u v hacc hu hv
       obtain ⟨v1,hr1,hd1⟩:=partD_sound P w hx' hu
       obtain ⟨v2,hr2,hd2⟩:=partD_sound P w hy' hv
       have ihr:=ihl r hacc
       cases hn:f.name=="_" with
       | true =>
        simp only [hn,cond_true,Option.some.injEq] at h
        subst h
        have:f.name="_":=beq_iff_eq.1 hn
        simp [Op.eqFields,this,ihr]
       | false =>
        have hne:f.name≠"_" := by intro e; simp [e] at hn
        simp only [hn,cond_false] at h
        split at h
        ·rename_i e he
         simp only [Option.some.injEq] at h
         have h3:=ih f.type v1 v2 u v e hd1 hd2 he d (by omega)
         subst h
         simp only [Op.eqFields,hne,ne_eq,not_false_eq_true,if_true,Sem.run_bind,hr1,hr2,h3,Result.andThen_ok]
         cases e
         ·simp
         ·simpa using ihr
        ·simp at h
      ·simp at h
  ·simp at h
theorem run_eqGuard (op:BinOp) (t:TypeId) (xo yo:Operand) (a b:Value) (h1:¬ (a=.nilIface∧b=.nilIface)) (h2:∀xs ys,a=.agg xs→b=.agg ys→P.eqGuardType P.depth t=false) :
  (eqGuard op t xo yo a b).run P w=.ok () w:=by
 unfold eqGuard
 split
 all_goals first
  | (simp only [Bool.not_false,if_true,Sem.run_pure];done)
  | simp only [Bool.not_true,Bool.false_eq_true,if_false]
 all_goals
  split
  ·exact absurd ⟨rfl,rfl⟩ h1
  ·rename_i xs ys
   simp [h2 xs ys rfl rfl]
  ·rfl
theorem okK_isNone {b:Bool} {a:Option Addr} {n c:Nat} (h:okK (.nil b) a n c):a.isNone=b:=h
theorem run_equalIn_nil {t:TypeId} {x y:D α} {vx vy:Value} {c:Nat} {b:Bool} (hx:RD C cx vx x) (hy:RD C cx vy y) (h:nilCmp x y=some (c,b)) (ht:c=tyCode P t) (d:Nat) :
  (Op.equalIn (d+1) t vx vy).run P w=.ok b w∧¬ (vx=.nilIface∧vy=.nilIface)∧(∀xs,vx≠.agg xs):=by
 subst ht
 unfold nilCmp at h
 split at h<;>simp only [Option.some.injEq,Prod.mk.injEq,reduceCtorEq] at h<;>obtain ⟨hc,rfl⟩:=h<;>unfold tyCode at hc<;>split at hc<;>simp at hc<;>rename_i hu <;>
  cases hx<;>cases hy<;>(refine ⟨?_,by simp,by simp⟩)<;>simp only [Op.equalIn,Sem.run_bind,run_underlying hu,Result.andThen_ok,Sem.run_pure]<;>(try rfl)
 all_goals
  have hk':=okK_isNone (by assumption)
  first
   | (congr 1;done)
   | (rename_i a _ _ _ ;cases a<;>(subst hk';rfl))
   | (rename Option Addr=>a;cases a<;>(subst hk';rfl))
end
end Go.Eng
namespace Go.Eng
open Go.RowKit
variable {α:Type}
section
variable {X:Ctx α} (hX:XOk X) {cx:Cx α} (w:World)
include hX in
theorem binD_sound (op:BinOp) (t:TypeId) (x y:D α) (vx vy:Value) (xo yo:Operand) (hx:RD X.C cx vx x) (hy:RD X.C cx vy y) (r:Res α) (hr:binD X op t x y=r) (hok:r.ok=true) :
  ∃v,(do eqGuard op t xo yo vx vy;binOp op t vx vy:Sem Value).run X.P w=.ok v w∧RD X.C cx v r.d∧r.ch=none:=by
 have plainG:∀(h1:¬ (vx=.nilIface∧vy=.nilIface)) (h2:∀xs,vx≠.agg xs) (v:Value),(binOp op t vx vy).run X.P w=.ok v w →
   (do eqGuard op t xo yo vx vy;binOp op t vx vy:Sem Value).run X.P w=.ok v w:=by
  intro h1 h2 v hv
  simp [run_eqGuard X.P w op t xo yo vx vy h1 (fun xs _ h=>absurd h (h2 xs)),hv]
 unfold binD at hr
 split at hr
 ·cases hx with | int _ _ ha=>cases hy with | int _ _ hb =>
  subst hr
  obtain ⟨v,h1,h2,h3⟩:=shiftOp_sound (C:=X.C) (cx:=cx) X.P w _ _ _ _ _ ha t hok
  exact ⟨v,plainG (by simp) (by simp) v h1,h2,h3⟩
 ·cases hx with | int _ _ ha=>cases hy with | int _ _ hb =>
  subst hr
  obtain ⟨v,h1,h2,h3⟩:=shiftOp_sound (C:=X.C) (cx:=cx) X.P w _ _ _ _ _ ha t hok
  exact ⟨v,plainG (by simp) (by simp) v h1,h2,h3⟩
 ·rename_i k a k' b _ _
  cases hx with | int _ _ ha=>cases hy with | int _ _ hb =>
  cases hk:k==k' with
  | false=>simp only [hk,cond_false] at hr;subst hr;simp [Res.no] at hok
  | true =>
   simp only [hk,cond_true] at hr
   obtain rfl:=beq_iff_eq.1 hk
   subst hr
   obtain ⟨v,h1,h2,h3⟩:=intOp_sound (C:=X.C) (cx:=cx) X.P w op k a b ha hb t hok
   exact ⟨v,plainG (by simp) (by simp) v h1,h2,h3⟩
 ·cases hx with | str s _ hs _=>cases hy with | str u _ hu _ =>
  subst hs hu hr
  obtain ⟨v,h1,h2,h3⟩:=strOp_sound (C:=X.C) (cx:=cx) X.P w op s u t hok
  exact ⟨v,plainG (by simp) (by simp) v h1,h2,h3⟩
 ·cases hx;cases hy
  cases ht:Nat.beq (tyCode X.P t) 6 with
  | false=>simp only [ht,cond_false] at hr;subst hr;simp [Res.no] at hok
  | true =>
   simp only [ht,cond_true] at hr
   subst hr
   have hc:=Nat.eq_of_beq_eq_true ht
   have hu:X.P.underlying t=some .bool:=by
    unfold tyCode at hc;split at hc<;>simp_all
   refine ⟨_,plainG (by simp) (by simp) _ ?_,.bool _,rfl⟩
   simp only [binOp,Sem.run_bind,Op.equal,Op.maxDepth,run_equalIn_bool' w 9999 t _ _ hu,Result.andThen_ok,Sem.run_pure]
 ·cases hx;cases hy
  cases ht:Nat.beq (tyCode X.P t) 6 with
  | false=>simp only [ht,cond_false] at hr;subst hr;simp [Res.no] at hok
  | true =>
   simp only [ht,cond_true] at hr
   subst hr
   have hc:=Nat.eq_of_beq_eq_true ht
   have hu:X.P.underlying t=some .bool:=by
    unfold tyCode at hc;split at hc<;>simp_all
   refine ⟨_,plainG (by simp) (by simp) _ ?_,.bool _,rfl⟩
   simp only [binOp,Sem.run_bind,Op.equal,Op.maxDepth,run_equalIn_bool' w 9999 t _ _ hu,Result.andThen_ok,Sem.run_pure]
 ·rename_i xs ys
  cases hp:X.plainT t with
  | false=>simp only [hp,cond_false] at hr;subst hr;simp [Res.no] at hok
  | true =>
  simp only [hp,cond_true] at hr
  split at hr
  ·rename_i b hb
   subst hr
   have h:=eqD_sound (C:=X.C) (cx:=cx) X.P w (fun t h=>(hX.plain t h).1) 9 t vx vy _ _ b hx hy hb 10000 (by omega)
   cases hx with | agg vs _ _ _ _=>cases hy with | agg us _ _ _ _ =>
   refine ⟨.bool b,?_,.bool _,rfl⟩
   simp only [Sem.run_bind,run_eqGuard X.P w .eql t xo yo (.agg vs) (.agg us) (by simp) (fun _ _ _ _=>(hX.plain t hp).2),Result.andThen_ok,binOp,Op.equal,Op.maxDepth,h,Sem.run_pure]
  ·subst hr;simp [Res.no] at hok
 ·rename_i xs ys
  cases hp:X.plainT t with
  | false=>simp only [hp,cond_false] at hr;subst hr;simp [Res.no] at hok
  | true =>
  simp only [hp,cond_true] at hr
  split at hr
  ·rename_i b hb
   subst hr
   have h:=eqD_sound (C:=X.C) (cx:=cx) X.P w (fun t h=>(hX.plain t h).1) 9 t vx vy _ _ b hx hy hb 10000 (by omega)
   cases hx with | agg vs _ _ _ _=>cases hy with | agg us _ _ _ _ =>
   refine ⟨.bool (!b),?_,.bool _,rfl⟩
   simp only [Sem.run_bind,run_eqGuard X.P w .neq t xo yo (.agg vs) (.agg us) (by simp) (fun _ _ _ _=>(hX.plain t hp).2),Result.andThen_ok,binOp,Op.equal,Op.maxDepth,h,Sem.run_pure]
  ·subst hr;simp [Res.no] at hok
 ·split at hr
  ·rename_i c b hn
   cases ht:Nat.beq c (tyCode X.P t) with
   | false=>simp only [ht,cond_false] at hr;subst hr;simp [Res.no] at hok
   | true =>
    simp only [ht,cond_true] at hr
    subst hr
    obtain ⟨h1,h2,h3⟩:=run_equalIn_nil (C:=X.C) (cx:=cx) X.P w hx hy hn (Nat.eq_of_beq_eq_true ht) 9999
    refine ⟨.bool b,plainG h2 h3 _ ?_,.bool _,rfl⟩
    unfold nilCmp at hn
    split at hn<;>simp only [Option.some.injEq,Prod.mk.injEq,reduceCtorEq] at hn<;>cases hx<;>cases hy <;>
     simp only [binOp,Sem.run_bind,Op.equal,Op.maxDepth,h1,Result.andThen_ok,Sem.run_pure]
  ·subst hr;simp [Res.no] at hok
 ·split at hr
  ·rename_i c b hn
   cases ht:Nat.beq c (tyCode X.P t) with
   | false=>simp only [ht,cond_false] at hr;subst hr;simp [Res.no] at hok
   | true =>
    simp only [ht,cond_true] at hr
    subst hr
    obtain ⟨h1,h2,h3⟩:=run_equalIn_nil (C:=X.C) (cx:=cx) X.P w hx hy hn (Nat.eq_of_beq_eq_true ht) 9999
    refine ⟨.bool (!b),plainG h2 h3 _ ?_,.bool _,rfl⟩
    unfold nilCmp at hn
    split at hn<;>simp only [Option.some.injEq,Prod.mk.injEq,reduceCtorEq] at hn<;>cases hx<;>cases hy <;>
     simp only [binOp,Sem.run_bind,Op.equal,Op.maxDepth,h1,Result.andThen_ok,Sem.run_pure]
  ·subst hr;simp [Res.no] at hok
 ·subst hr;simp [Res.no] at hok
theorem run_equalIn_nilI {t:TypeId} (ht:tyCode X.P t=5) (d:Nat):(Op.equalIn (d+1) t .nilIface .nilIface).run X.P w=.ok true w:=by
 have hu:∃ms,X.P.underlying t=some (.interface ms):=by
  unfold tyCode at ht
  split at ht<;>simp at ht
  exact ⟨_,by assumption⟩
 obtain ⟨ms,hu⟩:=hu
 simp only [Op.equalIn,Sem.run_bind,run_underlying hu,Result.andThen_ok,Sem.run_pure]
theorem run_eqGuard_co (op:BinOp) (t:TypeId) (xo yo:Operand) (h:(isCo xo||isCo yo)=true):(eqGuard op t xo yo .nilIface .nilIface).run X.P w=.ok () w:=by
 unfold eqGuard
 cases xo<;>cases yo<;>simp [isCo] at h<;>cases op<;>rfl
include hX in
theorem binN_sound (op:BinOp) (t:TypeId) (x y:D α) (vx vy:Value) (xo yo:Operand) (hx:RD X.C cx vx x) (hy:RD X.C cx vy y) (r:Res α) (hr:binN X op t xo yo x y=r) (hok:r.ok=true) :
  ∃v,(do eqGuard op t xo yo vx vy;binOp op t vx vy:Sem Value).run X.P w=.ok v w∧RD X.C cx v r.d∧r.ch=none:=by
 unfold binN at hr
 split at hr
 ·cases hc:(isCo xo||isCo yo)&&Nat.beq (tyCode X.P t) 5 with
  | false=>rw [hc] at hr;subst hr;simp [Res.no] at hok
  | true =>
   rw [hc] at hr
   subst hr
   rw [Bool.and_eq_true] at hc
   cases hx;cases hy
   refine ⟨.bool true,?_,.bool _,rfl⟩
   simp only [Sem.run_bind,run_eqGuard_co w _ t xo yo hc.1,Result.andThen_ok,binOp,Op.equal,Op.maxDepth,run_equalIn_nilI w (Nat.eq_of_beq_eq_true hc.2),Sem.run_pure]
 ·cases hc:(isCo xo||isCo yo)&&Nat.beq (tyCode X.P t) 5 with
  | false=>rw [hc] at hr;subst hr;simp [Res.no] at hok
  | true =>
   rw [hc] at hr
   subst hr
   rw [Bool.and_eq_true] at hc
   cases hx;cases hy
   refine ⟨.bool false,?_,.bool _,rfl⟩
   simp only [Sem.run_bind,run_eqGuard_co w _ t xo yo hc.1,Result.andThen_ok,binOp,Op.equal,Op.maxDepth,run_equalIn_nilI w (Nat.eq_of_beq_eq_true hc.2),Sem.run_pure,Bool.not_true]
 ·exact binD_sound hX w _ t _ _ vx vy xo yo hx hy r hr hok
theorem unD_sound (op:UnOp) (x:D α) (vx:Value) (hx:RD X.C cx vx x) (r:Res α) (hr:unD op x=r) (hok:r.ok=true) :
  ∃v,(Op.unary op vx).run X.P w=.ok v w∧RD X.C cx v r.d∧r.ch=none:=by
 unfold unD at hr
 split at hr
 ·cases hx;subst hr;exact ⟨_,rfl,.bool _,rfl⟩
 ·cases hx;subst hr;exact ⟨_,rfl,.int _ _ (inR_wrap _ _),rfl⟩
 ·cases hx;subst hr;exact ⟨_,by simp [Op.unary,Op.intBits,bitsE],.int _ _ (inR_bits _ _ _ _),rfl⟩
 ·subst hr;simp [Res.no] at hok
theorem fieldOff_some {P:Program} {t f off ft:Nat} (h:fieldOff P t f=some (off,ft)):∃(fs:Array Field) (fd:Field),P.underlying t=some (.struct fs)∧fs[f]?=some fd∧fd.offset=off∧fd.type=ft:=by
 unfold fieldOff at h
 split at h
 ·rename_i fs hu
  split at h
  ·rename_i fd hf
   simp only [Option.some.injEq,Prod.mk.injEq] at h
   exact ⟨fs,fd,hu,by simpa using hf,h.1,h.2⟩
  ·simp at h
 ·simp at h
theorem fieldD_sound (t:TypeId) (x:D α) (vx:Value) (f:Nat) (hx:RD X.C cx vx x) (r:Res α) (hr:fieldD X.P t x f=r) (hok:r.ok=true) :
  ∃v,(Instr.field t vx f).run X.P w=.ok v w∧RD X.C cx v r.d∧r.ch=none:=by
 unfold fieldD at hr
 split at hr
 ·rename_i off ft cs hf
  obtain ⟨fs,fd,hu,hfd,rfl,rfl⟩:=fieldOff_some hf
  cases hp:partD X.P fd.type cs fd.offset with
  | none=>rw [hp] at hr;subst hr;simp [Res.o,Res.no] at hok
  | some d =>
   rw [hp] at hr
   subst hr
   have hx':=hx
   cases hx with | agg vs _ _ _ _ =>
   obtain ⟨v,h1,h2⟩:=partD_sound X.P w hx' hp
   exact ⟨v,by simp [Instr.field,run_underlying hu,hfd,asAgg,h1],h2,rfl⟩
 ·subst hr;simp [Res.no] at hok
theorem fieldAddrD_sound (t:TypeId) (x:D α) (vx:Value) (f:Nat) (hx:RD X.C cx vx x) (r:Res α) (hr:fieldAddrD X.P t x f=r) (hok:r.ok=true) :
  ∃v,(Instr.fieldAt t vx f).run X.P w=.ok v w∧RD X.C cx v r.d∧r.ch=none:=by
 unfold fieldAddrD at hr
 split at hr
 ·rename_i off ft hf
  obtain ⟨fs,fd,hu,hfd,rfl,rfl⟩:=fieldOff_some hf
  cases hn:nzT X.P fd.type with
  | false=>simp only [hn,cond_false] at hr;subst hr;simp [Res.no] at hok
  | true =>
   simp only [hn,cond_true] at hr
   obtain ⟨m,hm⟩:∃m,szO X.P fd.type=some (m+1):=by
    unfold nzT at hn;split at hn
    ·rename_i m hm;exact ⟨m,hm⟩
    ·simp at hn
   have hrun:∀ad:Addr,(Instr.fieldAt t (.pointer (some ad)) f).run X.P w=.ok (.pointer (some (ad.add fd.offset))) w:=by
    intro ad
    simp [Instr.fieldAt,run_underlying hu,hfd,Instr.sureAddr,fieldPlace,run_sizeOf' X.P w hm]
   have hadd:∀(b o:Nat),(Addr.add ⟨b,o,none⟩ fd.offset)=⟨b,o+fd.offset,none⟩:=by
    intro b o;unfold Addr.add;split<;>simp_all
   split at hr
   ·subst hr
    cases hx with | ptr o off b ho =>
    exact ⟨_,by rw [hrun,hadd],.ptr _ _ _ ho,rfl⟩
   ·subst hr
    cases hx with | epr o i off b p ho hi =>
    refine ⟨_,by rw [hrun,hadd],?_,rfl⟩
    rw [Nat.add_assoc]
    exact .epr _ _ _ _ _ ho hi
   ·subst hr
    cases hx with | ref b off cs vs hav hcell h1 hrd =>
    refine ⟨_,by rw [hrun,hadd],.ref b (off+fd.offset) _ (fun i=>vs (fd.offset+i)) (fun hne=>hav (by intro e;subst e;simp at hne)) (fun i c hc=>?_) (fun i c hc=>?_) (fun i c hc=>?_),rfl⟩
    ·rw [List.getElem?_drop] at hc;rw [Nat.add_assoc];exact hcell _ c hc
    ·rw [List.getElem?_drop] at hc;exact h1 _ c hc
    ·rw [List.getElem?_drop] at hc;exact hrd _ c hc
   ·subst hr;simp [Res.no] at hok
 ·subst hr;simp [Res.no] at hok
end
end Go.Eng
namespace Go.Eng
open Go.RowKit
variable {α:Type}
theorem add_zero' (b o n:Nat):(Addr.add ⟨b,o,none⟩ n)=⟨b,o+n,none⟩:=by
 unfold Addr.add;split<;>simp_all
theorem range_get {n i:Nat} {f:Nat→Value} {v:Value} (h:((List.range n).map f).toArray[i]?=some v):i < n∧v=f i:=by
 simp only [List.getElem?_toArray,List.getElem?_map,Option.map_eq_some_iff] at h
 obtain ⟨j,hj,rfl⟩:=h
 rcases Nat.lt_or_ge i n with h' | h'
 ·rw [List.getElem?_range h'] at hj
  simp only [Option.some.injEq] at hj
  subst hj
  exact ⟨h',rfl⟩
 ·rw [List.getElem?_eq_none (by simpa using h')] at hj
  simp at hj
section
variable {X:Ctx α} (hX:XOk X) {g:Gh} {tm:List (D α)} {hs:Obs α} {a:Act} {w:World} (hS:Sim X g tm hs a w)
def AtCells (C:Pay α) (cx:Cx α) (v:Value) (cs:List (D α)) (off:Nat):Prop :=
 ∃b o,v=.pointer (some ⟨b,o,none⟩)∧∀(i:Nat) c,cs[off+i]?=some c→∃u,cx.w.cell? ⟨b,o+i,none⟩=some u∧u.oneCell'=true∧RD C cx u c
theorem cell_at {w:World} {b i:Nat} {cells:Array Value} {T:TypeId} {z:Nat×Nat} (h:w.heap[b]?=some (.cells cells T z)):w.cell? ⟨b,i,none⟩=cells[i]?:=by
 simp [World.cell?,h]
include hX hS in
theorem cellsAt_sound {vx:Value} {x:D α} {cs:List (D α)} {off:Nat} (hx:RD X.C (cxOf g hs w) vx x) (h:cellsAt X.C hs x=some (cs,off)):AtCells X.C (cxOf g hs w) vx cs off:=by
 unfold cellsAt at h
 split at h
 ·rename_i o k
  split at h
  ·rename_i fz cs' hl
   simp only [Option.some.injEq,Prod.mk.injEq] at h
   obtain ⟨rfl,rfl⟩:=h
   cases hx with | ptr _ _ b ho =>
   simp only [cxOf,hl] at ho
   obtain ⟨b',cells,T,hb',hh,hsz,h1,hr⟩:=hS.obs o _ hl
   obtain rfl:b=b':=by rw [ho] at hb';simpa using hb'
   refine ⟨b,k,rfl,fun i c hc=>?_⟩
   have hlt:k+i < cells.size:=by
    rw [hsz];rcases Nat.lt_or_ge (k+i) cs'.length with h | h
    ·exact h
    ·simp [List.getElem?_eq_none h] at hc
   have hv:cells[k+i]?=some cells[k+i]:=by simp [hlt]
   refine ⟨cells[k+i],?_,h1 _ _ hv,hr _ _ _ hv hc⟩
   rw [cell_at hh];exact hv
  ·simp at h
 ·rename_i o i k
  split at h
  ·rename_i fz p hl
   simp only [Option.some.injEq,Prod.mk.injEq] at h
   obtain ⟨rfl,rfl⟩:=h
   cases hx with | epr _ _ _ b p' ho hi =>
   simp only [cxOf,hl,Option.some.injEq,Prod.mk.injEq] at ho
   obtain ⟨hrho,rfl⟩:=ho
   have hob:=hS.obs o _ hl
   rw [hrho] at hob
   obtain ⟨cells,T,hh,hsz,hbig,h1,hr⟩:=hob
   refine ⟨b,i * X.C.esz p+k,rfl,fun j c hc=>?_⟩
   have hj:k+j < X.C.esz p:=by
    rw [←hX.pay.elen p i hi];rcases Nat.lt_or_ge (k+j) (X.C.elem p i).length with h | h
    ·exact h
    ·simp [List.getElem?_eq_none h] at hc
   have hlt:i * X.C.esz p+(k+j) < cells.size:=by
    have:(i+1) * X.C.esz p≤X.C.len p * X.C.esz p:=Nat.mul_le_mul_right _ hi
    rw [Nat.add_mul] at this;omega
   have hv:cells[i * X.C.esz p+(k+j)]?=some cells[i * X.C.esz p+(k+j)]:=by simp [hlt]
   refine ⟨cells[i * X.C.esz p+(k+j)],?_,h1 _ _ hv,hr _ _ _ _ hi hv hc⟩
   rw [Nat.add_assoc,cell_at (w:=(cxOf g hs w).w) hh];exact hv
  ·simp at h
 ·simp only [Option.some.injEq,Prod.mk.injEq] at h
  obtain ⟨rfl,rfl⟩:=h
  cases hx with | ref b o _ vs hav hcell h1 hrd =>
  refine ⟨b,o,rfl,fun i c hc=>?_⟩
  rw [Nat.zero_add] at hc
  exact ⟨vs i,hcell i c hc,h1 i c hc,hrd i c hc⟩
 ·simp at h
theorem loadD_sound {C:Pay α} {cx:Cx α} {P:Program} {t:TypeId} {v:Value} {cs:List (D α)} {off:Nat} {d:D α} (h:AtCells C cx v cs off) (hl:loadD P t cs off=some d) :
  ∃u,(Instr.loadAt t v).run P cx.w=.ok u cx.w∧RD C cx u d:=by
 obtain ⟨b,o,rfl,hc⟩:=h
 unfold loadD at hl
 split at hl
 ·rename_i n hsh hsz
  cases hn:Nat.ble (off+n) cs.length with
  | false=>simp [hn] at hl
  | true =>
   simp only [hn,cond_true,Option.some.injEq] at hl
   subst hl
   have hle:=Nat.le_of_ble_eq_true hn
   have hex:∀j,j < n→∃u,cx.w.cell? ⟨b,o+j,none⟩=some u∧u.oneCell'=true∧RD C cx u (cs[off+j]?.getD .bad):=by
    intro j hj
    have:cs[off+j]?=some (cs[off+j]'(by omega)):=by simp
    obtain ⟨u,h1,h2,h3⟩:=hc j _ this
    exact ⟨u,h1,h2,by rw [this];exact h3⟩
   have hf:∃f:Nat→Value,∀j,j < n→cx.w.cell? ⟨b,o+j,none⟩=some (f j)∧(f j).oneCell'=true∧RD C cx (f j) (cs[off+j]?.getD .bad):=by
    refine ⟨fun j=>(cx.w.cell? ⟨b,o+j,none⟩).getD undef,fun j hj=>?_⟩
    obtain ⟨u,h1,h2,h3⟩:=hex j hj
    simp only [h1,Option.getD_some]
    exact ⟨trivial,h2,h3⟩
   obtain ⟨f,hf⟩:=hf
   refine ⟨.agg ((List.range n).map f).toArray,?_,.agg _ _ ?_ (fun i v hi=>?_) (fun i v c hi hc=>?_)⟩
   ·have hr:=run_loadCells (P:=P) cx.w ⟨b,o,none⟩ n f (fun j hj=>by rw [add_zero'];exact (hf j hj).1)
    simp [Instr.loadAt,Instr.sureAddr,loadVar,run_isAgg2 P cx.w hsh,run_sizeOf' P cx.w hsz,hr]
   ·simp;omega
   ·obtain ⟨hin,rfl⟩:=range_get hi
    exact (hf i hin).2.1
   ·obtain ⟨hin,rfl⟩:=range_get hi
    have:=(hf i hin).2.2
    rw [List.getElem?_take,if_pos hin,List.getElem?_drop] at hc
    rwa [hc] at this
 ·rename_i hsh
  obtain ⟨u,h1,h2,h3⟩:=hc 0 d (by simpa using hl)
  refine ⟨u,?_,h3⟩
  rw [Nat.add_zero] at h1
  simp [Instr.loadAt,Instr.sureAddr,loadVar,run_isAgg1 P cx.w hsh,h1]
 ·simp at hl
theorem inR_u8 (b:UInt8):inR .u8 b.toNat=true:=by
 have:=b.toNat_lt
 simp only [inR,Bool.and_eq_true,decide_eq_true_eq]
 exact ⟨by show (0:Int)≤_;omega,by show _≤(255:Int);omega⟩
theorem inB_of {i:Int} {n:Nat} (h:inB i n=true):0≤i∧i < n:=by simpa [inB] using h
omit hX hS in
theorem arr_of {o:Nat} {fz:Bool} {p:α} (hl:look hs o=some (.arr fz p)):(cxOf g hs w).ar o=some (g.rho o,p):=by simp [cxOf,hl]
omit hX hS in
theorem indexAddrD_sound (t:TypeId) (x ix:D α) (vx vi:Value) (hx:RD X.C (cxOf g hs w) vx x) (hi:RD X.C (cxOf g hs w) vi ix) (r:Res α) (hr:indexAddrD X hs t x ix=r) (hok:r.ok=true) :
  ∃v,(Instr.indexAt t vx vi).run X.P w=.ok v w∧RD X.C (cxOf g hs w) v r.d∧r.ch=none:=by
 unfold indexAddrD at hr
 split at hr
 ·rename_i e p k k' i hu
  cases hi with | int _ _ hR =>
  split at hr
  ·rename_i n hsz
   cases hn:Nat.beq n (X.C.esz p) with
   | false=>simp only [hn,cond_false] at hr;subst hr;simp [Res.no] at hok
   | true =>
   simp only [hn,cond_true] at hr
   obtain rfl:=Nat.eq_of_beq_eq_true hn
   subst hr
   obtain ⟨h0,h1⟩:=inB_of hok
   obtain ⟨m,rfl⟩:=Int.eq_ofNat_of_zero_le h0
   have hm:m < X.C.len p:=by omega
   cases hx with
   | pl0 _ _ _ _ hl hk=>omega
   | pl b off n c _ _ vs hn hc hb hk hav hcell h1c hrd =>
    subst hn
    refine ⟨.pointer (some ⟨b,off+m * X.C.esz p,none⟩),?_,.ref _ _ _ (fun j=>vs m j) (fun _=>hav) (fun j c hc=>?_) (fun j c hc=>?_) (fun j c hc=>?_),rfl⟩
    ·simp [Instr.indexAt,asIntOf,run_underlying hu,run_sizeOf' X.P w hsz,add_zero',hm]
    ·rw [Nat.add_assoc];exact hcell m j c hm hc
    ·exact h1c m j c hm hc
    ·exact hrd m j c hm hc
  ·subst hr;simp [Res.no] at hok
 ·rename_i e o k' i hu
  cases hi with | int _ _ hR =>
  split at hr
  ·rename_i fz p n hl hsz
   cases hn:Nat.beq n (X.C.esz p) with
   | false=>simp only [hn,cond_false] at hr;subst hr;simp [Res.no] at hok
   | true =>
   simp only [hn,cond_true] at hr
   obtain rfl:=Nat.eq_of_beq_eq_true hn
   subst hr
   obtain ⟨h0,h1⟩:=inB_of hok
   obtain ⟨m,rfl⟩:=Int.eq_ofNat_of_zero_le h0
   have hm:m < X.C.len p:=by omega
   have har:=arr_of (g:=g) (w:=w) hl
   cases hx with
   | arrO _ b p' n c ho hn hc hz =>
    rw [har] at ho
    simp only [Option.some.injEq,Prod.mk.injEq] at ho
    obtain ⟨hrho,rfl⟩:=ho
    subst hn
    refine ⟨.pointer (some ⟨b,0+m * X.C.esz p,none⟩),?_,?_,rfl⟩
    ·simp [Instr.indexAt,asIntOf,run_underlying hu,run_sizeOf' X.P w hsz,add_zero',hm]
    ·rw [Nat.zero_add]
     have:=RD.epr (C:=X.C) (cx:=cxOf g hs w) o m 0 b p (by rw [har,hrho]) hm
     rw [Nat.add_zero] at this
     exact this
   | arrN _ p' a' ho hn =>
    rw [har] at ho
    simp only [Option.some.injEq,Prod.mk.injEq] at ho
    obtain ⟨hrho,rfl⟩:=ho
    omega
  ·subst hr;simp [Res.no] at hok
 ·rename_i n e o k k' i hu
  cases hi with | int _ _ hR =>
  split at hr
  ·rename_i m hsz
   subst hr
   obtain ⟨h0,h1⟩:=inB_of hok
   obtain ⟨j,rfl⟩:=Int.eq_ofNat_of_zero_le h0
   have hj:j < n:=by omega
   cases hx with | ptr _ _ b ho =>
   refine ⟨_,?_,.ptr _ _ b ho,rfl⟩
   simp [Instr.indexAt,asIntOf,run_underlying hu,Instr.sureAddr,run_sizeOf' X.P w hsz,add_zero',hj]
  ·subst hr;simp [Res.no] at hok
 ·rename_i n e cs k' i hu
  cases hi with | int _ _ hR =>
  split at hr
  ·rename_i m hsz
   subst hr
   obtain ⟨h0,h1⟩:=inB_of hok
   obtain ⟨j,rfl⟩:=Int.eq_ofNat_of_zero_le h0
   have hj:j < n:=by omega
   cases hx with | ref b off _ vs hav hcell h1 hrd =>
   refine ⟨.pointer (some ⟨b,off+j * m,none⟩),?_,.ref _ _ _ (fun i=>vs (j * m+i)) (fun hne=>hav (by intro e;subst e;simp at hne)) (fun i c hc=>?_) (fun i c hc=>?_) (fun i c hc=>?_),rfl⟩
   ·simp [Instr.indexAt,asIntOf,run_underlying hu,Instr.sureAddr,run_sizeOf' X.P w hsz,add_zero',hj]
   ·rw [Int.toNat_natCast,List.getElem?_drop] at hc;rw [Nat.add_assoc];exact hcell _ c hc
   ·rw [Int.toNat_natCast,List.getElem?_drop] at hc;exact h1 _ c hc
   ·rw [Int.toNat_natCast,List.getElem?_drop] at hc;exact hrd _ c hc
  ·subst hr;simp [Res.no] at hok
 ·subst hr;simp [Res.no] at hok
theorem indexD_sound {C:Pay α} {cx:Cx α} (P:Program) (w:World) (t:TypeId) (x ix:D α) (vx vi:Value) (hx:RD C cx vx x) (hi:RD C cx vi ix) (r:Res α) (hr:indexD P t x ix=r) (hok:r.ok=true) :
  ∃v,(Instr.index t vx vi).run P w=.ok v w∧RD C cx v r.d∧r.ch=none:=by
 unfold indexD at hr
 split at hr
 ·rename_i l k' i hu
  cases hi with | int _ _ hR =>
  cases hx with | str s _ hs hl =>
  subst hr
  obtain ⟨h0,h1⟩:=inB_of hok
  obtain ⟨j,rfl⟩:=Int.eq_ofNat_of_zero_le h0
  have hj:j < l.length:=by omega
  have hg:s[j]?=some (l.getD j 0):=by
   subst hs
   have hj':j < s.size:=by have:s.data.toList.length=s.size:=Array.length_toList;omega
   rw [List.getD_eq_getElem?_getD,List.getElem?_eq_getElem hj,Option.getD_some]
   rw [getElem?_pos s j hj']
   rfl
  refine ⟨.int .u8 (l.getD j 0).toNat,?_,?_,rfl⟩
  ·simp only [Instr.index,asIntOf,Sem.run_bind,Sem.run_pure,Result.andThen_ok,run_underlying hu]
   simp [hg]
  ·exact .int _ _ (inR_u8 _)
 ·rename_i n e cs k' i hu
  cases hi with | int _ _ hR =>
  split at hr
  ·rename_i m d hsz hp
   subst hr
   obtain ⟨h0,h1⟩:=inB_of hok
   obtain ⟨j,rfl⟩:=Int.eq_ofNat_of_zero_le h0
   have hj:j < n:=by omega
   have hx':=hx
   cases hx with | agg vs _ _ _ _ =>
   rw [hsz] at hp
   obtain ⟨v,h1,h2⟩:=partD_sound P w hx' hp
   refine ⟨v,?_,h2,rfl⟩
   simp only [Option.getD_some,Int.toNat_natCast] at h1
   simp [Instr.index,asIntOf,run_underlying hu,run_sizeOf' P w hsz,hj,h1]
  ·subst hr;simp [Res.no] at hok
 ·subst hr;simp [Res.no] at hok
end
end Go.Eng
namespace Go.Eng
open Go.RowKit
variable {α:Type}
section
variable {X:Ctx α} (hX:XOk X) {g:Gh} {tm:List (D α)} {hs:Obs α} {a:Act} {w:World} (hS:Sim X g tm hs a w)
theorem inR_len {n:Nat} (h:n≤big):inR .i64 n=true:=by
 unfold big at h
 simp only [inR,Bool.and_eq_true,decide_eq_true_eq]
 exact ⟨by show (-9223372036854775808:Int)≤_;omega,by show _≤(9223372036854775807:Int);omega⟩
theorem bys_pos_len {n b:Nat} (hb:0 < b) (h:n * b≤big):n≤big:=Nat.le_trans (Nat.le_mul_of_pos_right _ hb) h
theorem size_len (s:ByteArray):s.size=s.data.toList.length:=Array.length_toList.symm
theorem capD_sound (t:TypeId) (x:D α) (vx:Value) (ty:TypeId) (hx:RD X.C (cxOf g hs w) vx x) (r:Res α) (hr:capD X t x=r) (hok:r.ok=true) :
  ∃v,(Builtin.cap_ #[t] ty #[vx]).run X.P w=.ok v w∧RD X.C (cxOf g hs w) v r.d∧r.ch=none:=by
 unfold capD at hr
 split at hr
 ·rename_i hu
  cases hx
  subst hr
  exact ⟨goInt 0,by simp [Builtin.cap_,run_underlying hu],.int _ _ (by decide),rfl⟩
 ·subst hr;simp [Res.no] at hok
include hX in
theorem lenD_sound (t:TypeId) (x:D α) (vx:Value) (ty:TypeId) (hx:RD X.C (cxOf g hs w) vx x) (r:Res α) (hr:lenD X hs t x=r) (hok:r.ok=true)
  (hS:Sim X g tm hs a w) :
  ∃v,(Builtin.len_ #[t] ty #[vx]).run X.P w=.ok v w∧RD X.C (cxOf g hs w) v r.d∧r.ch=none:=by
 unfold lenD at hr
 split at hr
 ·rename_i l hu
  cases hx with | str s _ hs' hl =>
  subst hr
  refine ⟨goInt s.size,by simp [Builtin.len_,run_underlying hu],?_,rfl⟩
  rw [size_len,hs']
  exact .int _ _ (inR_len hl)
 ·rename_i hu
  cases hx
  subst hr
  exact ⟨goInt 0,by simp [Builtin.len_,run_underlying hu],.int _ _ (by decide),rfl⟩
 ·rename_i p k hu
  subst hr
  cases hx with
  | pl0 a' c _ _ hl hk =>
   refine ⟨goInt 0,by simp [Builtin.len_,run_underlying hu],?_,rfl⟩
   have:(X.C.len p:Int)=0:=by omega
   rw [Res.v,this]
   exact .int _ _ (by decide)
  | pl b off n c _ _ vs hn hc hbg hk hav hcell h1c hrd =>
   subst hn
   exact ⟨goInt (X.C.len p),by simp [Builtin.len_,run_underlying hu],.int _ _ (inR_len (bys_pos_len (hX.pay.bpos p) hbg)),rfl⟩
 ·rename_i o hu
  split at hr
  ·rename_i fz p hl
   subst hr
   have har:=arr_of (g:=g) (w:=w) hl
   have hob:=hS.obs o _ hl
   cases hx with
   | arrO _ b p' n c ho hn hc hz =>
    rw [har] at ho
    simp only [Option.some.injEq,Prod.mk.injEq] at ho
    obtain ⟨hrho,rfl⟩:=ho
    rw [hrho] at hob
    obtain ⟨cells,T,hh,hsz,hbg,_⟩:=hob
    subst hn
    exact ⟨goInt (X.C.len p),by simp [Builtin.len_,run_underlying hu],.int _ _ (inR_len (bys_pos_len (hX.pay.bpos p) hbg)),rfl⟩
   | arrN _ p' a' ho hn =>
    rw [har] at ho
    simp only [Option.some.injEq,Prod.mk.injEq] at ho
    obtain ⟨hrho,rfl⟩:=ho
    refine ⟨goInt 0,by simp [Builtin.len_,run_underlying hu],?_,rfl⟩
    have:(X.C.len p:Int)=0:=by omega
    rw [Res.v,this]
    exact .int _ _ (by decide)
  ·subst hr;simp [Res.no] at hok
 ·rename_i n e hu
  subst hr
  exact ⟨goInt n,by simp [Builtin.len_,run_underlying hu],.int _ _ hok,rfl⟩
 ·subst hr;simp [Res.no] at hok
theorem minD_sound {C:Pay α} {cx:Cx α} (P:Program) (w:World) (gt:Bool):∀(l:List (D α)) (vs:List Value) (x:D α) (vx:Value) (d:D α),RD C cx vx x→vs.length=l.length →
  (∀(i:Nat) v c,vs[i]?=some v→l[i]?=some c→RD C cx v c)→minD gt x l=some d →
  ∃v,(vs.foldlM (if gt then Builtin.max2 else Builtin.min2) vx).run P w=.ok v w∧RD C cx v d
 | [],vs,x,vx,d,hx,hlen,_,h=>by
  have:vs=[]:=List.eq_nil_of_length_eq_zero (by simpa using hlen)
  subst this
  simp only [minD,Option.some.injEq] at h
  subst h
  exact ⟨vx,by simp,hx⟩
 | y::r,vs,x,vx,d,hx,hlen,hr,h=>by
  cases vs with
  | nil=>simp at hlen
  | cons vy vr =>
  have hy:=hr 0 vy y rfl rfl
  unfold minD at h
  split at h
  ·rename_i heq
   simp at heq
  ·rename_i k n k' m r' heq
   simp only [List.cons.injEq] at heq
   obtain ⟨rfl,rfl⟩:=heq
   cases hx with | int _ _ hn =>
   cases hy with | int _ _ hm =>
   cases hk:k==k' with
   | false=>simp [hk] at h
   | true =>
   obtain rfl:=beq_iff_eq.1 hk
   simp only [hk,cond_true] at h
   have ih:=minD_sound P w gt r vr _ (.int k (bif (bif gt then decide (m > n) else decide (m < n)) then m else n)) d
    (.int _ _ (by cases (bif gt then decide (m > n) else decide (m < n))<;>assumption)) (by simpa using hlen) (fun i v c hv hc=>hr (i+1) v c (by simpa using hv) (by simpa using hc)) h
   obtain ⟨v,h1,h2⟩:=ih
   refine ⟨v,?_,h2⟩
   simp only [List.foldlM_cons,Sem.run_bind]
   cases gt
   ·simp only [Bool.false_eq_true,if_false,cond_false] at h1 ⊢
    have:(Builtin.min2 (.int k n) (.int k m)).run P w=.ok (.int k (bif decide (m < n) then m else n)) w:=by
     simp only [Builtin.min2,Sem.run_pure]
     by_cases hmn:m < n<;>simp [hmn]
    rw [this];exact h1
   ·simp only [if_true,cond_true] at h1 ⊢
    have:(Builtin.max2 (.int k n) (.int k m)).run P w=.ok (.int k (bif decide (m > n) then m else n)) w:=by
     simp only [Builtin.max2,Sem.run_pure]
     by_cases hmn:m > n<;>simp [hmn]
    rw [this];exact h1
  ·simp at h
theorem below_alloc {δ:Bool} (w:World) (o:Obj):BelowD δ w.heap.size w (w.alloc o):=(BelowD.refl _ _).alloc (Nat.le_refl _) o
end
end Go.Eng
