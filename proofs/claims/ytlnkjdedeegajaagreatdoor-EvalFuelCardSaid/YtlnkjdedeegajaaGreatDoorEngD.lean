/-
  THE ENGINE, PART D: OPERATIONS ON VALUES ALONE.
-/
import Derived.Test.YtlnkjdedeegajaaGreatDoorEngC
import Derived.OpenShut
import Derived.WalkLawsBesides
namespace Go.Eng
open Go.RowKit
variable {α:Type}
structure XOk (X:Ctx α):Prop where
  pay:PayOk X.C
  plain:∀t,X.plainT t=true→X.P.stoodInHeld t=false∧X.P.eqGuardType X.P.depth t=false
  mixed:X.P.follows .mixedOrders=true
theorem lo_min (k:IntKind):lo k=k.min:=by cases k<;>decide
theorem hi_max (k:IntKind):hi k=k.max:=by cases k<;>decide
theorem inR_wf (k:IntKind) (n:Int):inR k n=(Lit.int k n).wf:=by
  simp [inR,Lit.wf,lo_min,hi_max]
theorem inR_wrap (k:IntKind) (n:Int):inR k (k.wrap n)=true:=by rw [inR_wf];exact wf_wrap k n
theorem tmod_between (a b:Int):(0≤a→0≤a.tmod b∧a.tmod b≤a)∧(a≤0→a≤a.tmod b∧a.tmod b≤0):=by
  have h:∀a b:Int,0≤a→0≤a.tmod b∧a.tmod b≤a:=by
    intro a b ha
    refine ⟨Int.tmod_nonneg b ha,?_⟩
    rw [Int.tmod_eq_emod_of_nonneg ha]
    by_cases hb:b=0
    · subst hb;simp
    · rcases Int.lt_or_lt_of_ne hb with h | h
      · rw [←Int.emod_neg]
        have h1:=Int.emod_nonneg a (b:=-b) (by omega)
        have h2:=Int.ediv_mul_add_emod a (-b)
        have h3:0≤a / (-b):=Int.ediv_nonneg ha (by omega)
        have h4:0≤a / (-b) * (-b):=Int.mul_nonneg h3 (by omega)
        omega
      · have h2:=Int.ediv_mul_add_emod a b
        have h3:0≤a / b:=Int.ediv_nonneg ha (by omega)
        have h4:0≤a / b * b:=Int.mul_nonneg h3 (by omega)
        omega
  refine ⟨h a b,fun ha=>?_⟩
  have:=h (-a) b (by omega)
  rw [Int.neg_tmod] at this
  omega
theorem inR_tmod (k:IntKind) (a b:Int) (h:inR k a=true):inR k (a.tmod b)=true:=by
  obtain ⟨h1,h2⟩:=inR_of h
  have hlo:lo k≤0:=by cases k<;>simp [lo]
  have hhi:0≤hi k:=by cases k<;>simp [hi]
  have:=tmod_between a b
  simp only [inR,Bool.and_eq_true,decide_eq_true_eq]
  by_cases ha:0≤a
  · have:=this.1 ha;omega
  · have:=this.2 (by omega);omega
theorem inR_fdiv (k:IntKind) (a:Int) (n:Nat) (h:inR k a=true):inR k (a.fdiv (2 ^ n))=true:=by
  obtain ⟨h1,h2⟩:=inR_of h
  have hlo:lo k≤0:=by cases k<;>simp [lo]
  have hhi:0≤hi k:=by cases k<;>simp [hi]
  have hp:(0:Int) < 2 ^ n:=Int.pow_pos (by omega)
  rw [Int.fdiv_eq_ediv_of_nonneg _ (by omega)]
  simp only [inR,Bool.and_eq_true,decide_eq_true_eq]
  have h3:=Int.ediv_mul_add_emod a (2 ^ n)
  have h4:=Int.emod_nonneg a (b:=2 ^ n) (by omega)
  have h5:=Int.emod_lt_of_pos a hp
  by_cases ha:0≤a
  · have:=Int.ediv_nonneg ha (Int.le_of_lt hp)
    have:=Int.ediv_le_self (2 ^ n) ha
    omega
  · have h6:a / 2 ^ n < 0:=Int.ediv_neg_of_neg_of_pos (by omega) hp
    have h7:a≤a / 2 ^ n:=by
      have:a / 2 ^ n * 2 ^ n≤a / 2 ^ n * 1:=Int.mul_le_mul_of_nonpos_left (by omega) (by omega)
      have h8:a < a / 2 ^ n * 2 ^ n+2 ^ n:=by omega
      rcases Int.lt_or_le (a / 2 ^ n) a with h9 | h9
      · exfalso
        have h10:a / 2 ^ n+1≤a:=by omega
        have h11:(a / 2 ^ n+1) * 2 ^ n≤(a / 2 ^ n+1) * 1:=Int.mul_le_mul_of_nonpos_left (by omega) (by omega)
        rw [Int.add_mul] at h11
        omega
      · exact h9
    omega
theorem inR_bits (op:BinOp) (k:IntKind) (x y:Int):inR k (bitsE op k x y)=true:=by
  unfold bitsE
  cases op<;>exact inR_wrap _ _
section
variable {C:Pay α} {cx:Cx α} (P:Program) (w:World)
theorem intOp_sound (op:BinOp) (k:IntKind) (a b:Int) (ha:inR k a=true) (_hb:inR k b=true) (t:TypeId) (hok:(intOp (α:=α) op k a b).ok=true) :
    ∃v,(binOp op t (.int k a) (.int k b)).run P w=.ok v w∧RD C cx v (intOp op k a b).d∧(intOp (α:=α) op k a b).ch=none:=by
  cases op<;>simp only [intOp,Res.v,Res.if,Res.no,Bool.false_eq_true] at hok ⊢
  case quo =>
    refine ⟨.int k (k.wrap (a.tdiv b)),?_,.int _ _ (inR_wrap _ _),by simp⟩
    simp only [Bool.not_eq_true',beq_eq_false_iff_ne,ne_eq] at hok
    simp [binOp,Op.intDiv,hok]
  case rem =>
    refine ⟨.int k (a.tmod b),?_,.int _ _ (inR_tmod _ _ _ ha),by simp⟩
    simp only [Bool.not_eq_true',beq_eq_false_iff_ne,ne_eq] at hok
    simp [binOp,Op.intDiv,hok]
  case and | or | xor | andNot=>exact ⟨.int k (bitsE _ k a b),by simp [binOp,Op.intBits,bitsE],.int _ _ (inR_bits _ _ _ _),by simp⟩
  case add | sub | mul=>exact ⟨.int k (k.wrap _),by simp [binOp,Op.intArith],.int _ _ (inR_wrap _ _),by simp⟩
  all_goals exact ⟨.bool _,by simp [binOp,Op.intCmp],.bool _,by simp⟩
theorem shiftOp_sound (op:BinOp) (k k':IntKind) (a b:Int) (ha:inR k a=true) (t:TypeId)
    (hok:(shiftOp (α:=α) op k a b).ok=true) :
    ∃v,(binOp op t (.int k a) (.int k' b)).run P w=.ok v w∧RD C cx v (shiftOp op k a b).d∧(shiftOp (α:=α) op k a b).ch=none:=by
  cases op<;>simp only [shiftOp,Res.if,Res.no,Bool.false_eq_true,decide_eq_true_eq] at hok ⊢
  case shl =>
    refine ⟨.int k (k.wrap (a * 2 ^ (min b.toNat k.bits))),?_,.int _ _ (inR_wrap _ _),by simp⟩
    have:¬ b < 0:=by omega
    simp [binOp,Op.shift,this]
  case shr =>
    refine ⟨.int k (a.fdiv (2 ^ (min b.toNat k.bits))),?_,.int _ _ (inR_fdiv _ _ _ ha),by simp⟩
    have:¬ b < 0:=by omega
    simp [binOp,Op.shift,this]
theorem toList_data (s:ByteArray):s.toList=s.data.toList:=ByteArray.toList_eq s
theorem strOp_sound (op:BinOp) (s u:ByteArray) (t:TypeId)
    (hok:(strOp (α:=α) op s.data.toList u.data.toList).ok=true) :
    ∃v,(binOp op t (.string s) (.string u)).run P w=.ok v w∧RD C cx v (strOp op s.data.toList u.data.toList).d∧(strOp (α:=α) op s.data.toList u.data.toList).ch=none:=by
  cases op<;>simp only [strOp,Res.v,Res.if,Res.no,Bool.false_eq_true] at hok ⊢
  case add =>
    have h:=Nat.le_of_ble_eq_true hok
    have hl:(s++u).data.toList=s.data.toList++u.data.toList:=by rw [ByteArray.data_append,Array.toList_append]
    refine ⟨.string (s++u),?_,.str _ _ hl (by rw [List.length_append];exact h),by first | exact trivial | rfl⟩
    have hsz:∀x:ByteArray,x.size=x.data.toList.length:=fun x=>by show x.data.size=_;exact Array.length_toList.symm
    have:¬ (((s.size+u.size:Nat):Int) > IntKind.i64.max):=by
      rw [hsz,hsz]
      have:IntKind.i64.max=9223372036854775807:=by decide
      rw [this];unfold big at h;omega
    simp only [binOp,Op.stringOp,this,if_false,Sem.run_pure]
  all_goals exact ⟨.bool _,by simp only [binOp,Op.stringOp,toList_data];rfl,.bool _,by simp⟩
theorem run_sizeOf' {t:TypeId} {n:Nat} (h:szO P t=some n):(sizeOf t).run P w=.ok n w:=by
  unfold szO at h
  obtain ⟨i,hi,rfl⟩:=Option.map_eq_some_iff.1 h
  simp [sizeOf,typeInfo,hi]
theorem run_isAgg1 {t:TypeId} (h:shapeT P t=1):(isAgg t).run P w=.ok false w:=by
  unfold shapeT at h
  unfold isAgg
  split at h
  · simp at h
  · simp at h
  · rename_i d hd1 hd2 hd
    simp only [Sem.run_bind,run_underlying hd,Result.andThen_ok]
    cases d<;>first | rfl | (exact absurd hd (hd1 _)) | (exact absurd hd (hd2 _ _))
  · simp at h
theorem run_isAgg2 {t:TypeId} (h:shapeT P t=2):(isAgg t).run P w=.ok true w:=by
  unfold shapeT at h
  unfold isAgg
  split at h
  · rename_i hd;simp [run_underlying hd]
  · rename_i hd;simp [run_underlying hd]
  · simp at h
  · simp at h
theorem partD_sound {t:TypeId} {vs:Array Value} {cs:List (D α)} {off:Nat} {d:D α} (hv:RD C cx (.agg vs) (.agg cs)) (h:partD P t cs off=some d) :
    ∃v,(part t vs off).run P w=.ok v w∧RD C cx v d:=by
  cases hv with
  | agg _ _ hs h1 hr =>
  unfold partD at h
  split at h
  · rename_i n hsh hsz
    simp only [Option.some.injEq] at h
    subst h
    refine ⟨.agg (vs.extract off (off+n)),by simp [part,run_isAgg2 P w hsh,run_sizeOf' P w hsz],.agg _ _ ?_ (fun i v hi=>?_) (fun i v c hi hc=>?_)⟩
    · simp [hs];omega
    · rw [Array.getElem?_extract] at hi
      split at hi
      · exact h1 _ v hi
      · simp at hi
    · rw [Array.getElem?_extract] at hi
      rw [List.getElem?_take,List.getElem?_drop] at hc
      split at hi
      · split at hc
        · exact hr _ v c hi hc
        · simp at hc
      · simp at hi
  · rename_i hsh
    have:off < vs.size:=by
      rw [hs]
      rcases Nat.lt_or_ge off cs.length with h' | h'
      · exact h'
      · simp [List.getElem?_eq_none h'] at h
    have hvo:vs[off]?=some vs[off]:=by simp [this]
    exact ⟨vs[off],by simp [part,run_isAgg1 P w hsh,hvo],hr off _ d hvo h⟩
  · simp at h
theorem eqD_sound {pt:TypeId→Bool} (hpt:∀t,pt t=true→P.stoodInHeld t=false):∀(n:Nat) (t:TypeId) (vx vy:Value) (x y:D α) (b:Bool),RD C cx vx x→RD C cx vy y →
    eqD P pt n t x y=some b→∀d,n≤d→(Op.equalIn d t vx vy).run P w=.ok b w:=by
  intro n
  induction n with
  | zero=>intro t vx vy x y b _ _ h;simp [eqD] at h
  | succ n ih =>
    intro t vx vy x y b hx hy h d hd
    obtain ⟨d,rfl⟩:∃d',d=d'+1:=⟨d - 1,by omega⟩
    simp only [eqD] at h
    split at h
    · rename_i hu
      cases hx;cases hy
      simp only [Option.some.injEq] at h
      rw [run_equalIn_bool' w d t _ _ hu,h]
    · rename_i k0 k a k' b' hu
      cases hx;cases hy
      cases hk:k==k' with
      | false=>simp [hk] at h
      | true =>
        simp only [hk,cond_true,Option.some.injEq] at h
        obtain rfl:=beq_iff_eq.1 hk
        rw [run_equalIn_int w d t k _ _ _ hu,h]
    · rename_i hu
      cases hx with
      | str s l hs hl=>cases hy with
        | str u l' hu' hl' =>
          simp only [Option.some.injEq] at h
          rw [run_equalIn_string w d t _ _ hu,toList_data,toList_data,hs,hu',h]
    · rename_i fs xs ys hu
      cases hp:pt t with
      | false=>simp [hp] at h
      | true =>
      simp only [hp,cond_true] at h
      have hx':=hx
      have hy':=hy
      cases hx with
      | agg vxs _ _ _ _=>cases hy with
        | agg vys _ _ _ _ =>
          have hf:P.fieldsOf t=fs:=by simp [Program.fieldsOf,hu]
          rw [run_equalIn_struct w d t vxs vys (by rw [hf];exact hu) (hpt t hp),hf]
          clear hu hf
          generalize fs.toList=l at h
          induction l generalizing b with
          | nil=>simp only [List.foldr_nil,Option.some.injEq] at h;subst h;simp [Op.eqFields]
          | cons f l ihl =>
            simp only [List.foldr_cons] at h
            split at h
            · rename_i r u v hacc hu hv
              obtain ⟨v1,hr1,hd1⟩:=partD_sound P w hx' hu
              obtain ⟨v2,hr2,hd2⟩:=partD_sound P w hy' hv
              have ihr:=ihl r hacc
              cases hn:f.name=="_" with
              | true =>
                simp only [hn,cond_true,Option.some.injEq] at h
                subst h
                have:f.name="_":=beq_iff_eq.1 hn
                simp [Op.eqFields,this,ihr]
              | false =>
                have hne:f.name≠"_" := by intro e; simp [e] at hn
                simp only [hn,cond_false] at h
                split at h
                · rename_i e he
                  simp only [Option.some.injEq] at h
                  have h3:=ih f.type v1 v2 u v e hd1 hd2 he d (by omega)
                  subst h
                  simp only [Op.eqFields,hne,ne_eq,not_false_eq_true,if_true,Sem.run_bind,hr1,hr2,h3,Result.andThen_ok]
                  cases e
                  · simp
                  · simpa using ihr
                · simp at h
            · simp at h
    · simp at h
theorem run_eqGuard (op:BinOp) (t:TypeId) (xo yo:Operand) (a b:Value) (h1:¬ (a=.nilIface∧b=.nilIface)) (h2:∀xs ys,a=.agg xs→b=.agg ys→P.eqGuardType P.depth t=false) :
    (eqGuard op t xo yo a b).run P w=.ok () w:=by
  unfold eqGuard
  split
  all_goals first
    | (simp only [Bool.not_false,if_true,Sem.run_pure];done)
    | simp only [Bool.not_true,Bool.false_eq_true,if_false]
  all_goals
    split
    · exact absurd ⟨rfl,rfl⟩ h1
    · rename_i xs ys
      simp [h2 xs ys rfl rfl]
    · rfl
theorem okK_isNone {b:Bool} {a:Option Addr} {n c:Nat} (h:okK (.nil b) a n c):a.isNone=b:=h
theorem run_equalIn_nil {t:TypeId} {x y:D α} {vx vy:Value} {c:Nat} {b:Bool} (hx:RD C cx vx x) (hy:RD C cx vy y) (h:nilCmp x y=some (c,b)) (ht:c=tyCode P t) (d:Nat) :
    (Op.equalIn (d+1) t vx vy).run P w=.ok b w∧¬ (vx=.nilIface∧vy=.nilIface)∧(∀xs,vx≠.agg xs):=by
  subst ht
  unfold nilCmp at h
  split at h<;>simp only [Option.some.injEq,Prod.mk.injEq,reduceCtorEq] at h<;>obtain ⟨hc,rfl⟩:=h<;>unfold tyCode at hc<;>split at hc<;>simp at hc<;>rename_i hu <;>
    cases hx<;>cases hy<;>(refine ⟨?_,by simp,by simp⟩)<;>simp only [Op.equalIn,Sem.run_bind,run_underlying hu,Result.andThen_ok,Sem.run_pure]<;>(try rfl)
  all_goals
    have hk':=okK_isNone (by assumption)
    first
      | (congr 1;done)
      | (rename_i a _ _ _ ;cases a<;>(subst hk';rfl))
      | (rename Option Addr=>a;cases a<;>(subst hk';rfl))
end
end Go.Eng
