/-
  WHAT A STRING HAS, by the document.
-/
import Derived.Test.YtlnkjdedeegajaaGreatDoorLexM
namespace Go.Proofs.YtlnkjdedeegajaaGreatDoor
open Go.Eng
set_option maxRecDepth 100000
def mn (s:Str) (a:Int):Int:=bif decide ((s.length:Int) < a) then (s.length:Int) else a
def cl (s:Str) (a:Int):Int:=bif decide (mn s a > 0) then mn s a else 0
def cm (s:Str) (a:Int):Nat:=(cl s a).toNat
def posM (s:Str) (p:Nat):List (D Pl):=[dI p,dI (ln s p),dI ((p:Int) - sn s p+1)]
theorem cl_in (s:Str) (a:Int):0≤cl s a∧cl s a≤(s.length:Int):=by
  unfold cl mn
  by_cases h:(s.length:Int) < a
  · simp only [decide_eq_true h,cond_true]
    by_cases h2:(s.length:Int) > 0
    · simp only [decide_eq_true h2,cond_true];omega
    · simp only [decide_eq_false h2,cond_false];omega
  · simp only [decide_eq_false h,cond_false]
    by_cases h2:a > 0
    · simp only [decide_eq_true h2,cond_true];omega
    · simp only [decide_eq_false h2,cond_false];omega
theorem cm_le (s:Str) (a:Int):cm s a≤s.length:=by
  have:=cl_in s a
  unfold cm
  omega
def s10 (s:Str) (n i a l c:Int):St Pl:=mkS 37 [(0,.str s),(1,dI n),(4,.ptr 4 0),(5,.ptr 5 0),(6,dI i)] [(5,.box false [dI a,dI l,dI c]),(4,.box false [dI 0,dI 0,dI 0])]
def r10 (s:Str) (a l c:Int):St Pl:=mkS 37 [(0,.str s),(4,.ptr 4 0),(5,.ptr 5 0)] [(5,.box false [dI a,dI l,dI c]),(4,.box false [dI 0,dI 0,dI 0])]
theorem b10 (s:Str) (n a l c:Int) (i:Nat):evC tell0 noTL noL 1 (loopAt 16 0) [0,1,4,5,6] (s10 s n i a l c) =
    bif (bif decide ((i:Int) < (s.length:Int)) then decide ((i:Int) < n) else false) then ix_ i s.length (bif byt s i==10 then some (.normal,s10 s n (w64 ((i:Int)+1)) (w64 (a+1)) (w64 (l+1)) 1) else some (.normal,s10 s n (w64 ((i:Int)+1)) (w64 (a+1)) l (w64 (c+1))))
      else some (.exit 0,s10 s n i a l c):=by kernel_rfl
theorem ids10:(loopsAt 16).length=1∧firstId (loopAt 16 0)=3∧loopsOf (loopAt 16 0)=[]:=⟨by kernel_rfl,by kernel_rfl,by kernel_rfl⟩
theorem cm_lt {s:Str} {n:Int} {i:Nat} (h:i < cm s n):i < s.length∧(i:Int) < n:=by
  have h1:=cm_le s n
  refine ⟨by omega,?_⟩
  have h2:(i:Int) < cl s n:=by unfold cm at h;omega
  unfold cl mn at h2
  by_cases h3:(s.length:Int) < n
  · omega
  · simp only [decide_eq_false h3,cond_false] at h2
    by_cases h4:n > 0
    · simp only [decide_eq_true h4,cond_true] at h2;omega
    · simp only [decide_eq_false h4,cond_false] at h2;omega
theorem cm_end (s:Str) (n:Int):¬ (cm s n < s.length∧(cm s n:Int) < n):=by
  rintro ⟨h1,h2⟩
  have h3:=cl_in s n
  have h4:((cm s n:Nat):Int)=cl s n:=by unfold cm;omega
  rw [h4] at h2
  have h5:cl s n < (s.length:Int):=by omega
  unfold cl mn at h2 h5
  by_cases h:(s.length:Int) < n
  · simp only [decide_eq_true h,cond_true] at h2 h5
    by_cases h6:(s.length:Int) > 0
    · simp only [decide_eq_true h6,cond_true] at h5;omega
    · simp only [decide_eq_false h6,cond_false] at h5;omega
  · simp only [decide_eq_false h,cond_false] at h2 h5
    by_cases h6:n > 0
    · simp only [decide_eq_true h6,cond_true] at h2;omega
    · simp only [decide_eq_false h6,cond_false] at h2;omega
theorem go10 (s:Str) (n:Int) (hl:s.length≤big) :
    Goes X0 (.loop (loopAt 16 0)) (s10 s n 0 0 1 1) (pickR (.leaf (.exit 0) (r10 s (cm s n) (ln s (cm s n)) (((cm s n:Nat):Int) - sn s (cm s n)+1)))).1 (pickR (.leaf (.exit 0) (r10 s (cm s n) (ln s (cm s n)) (((cm s n:Nat):Int) - sn s (cm s n)+1)))).2:=by
  have hbig:big=140737488355328:=rfl
  have hcm:=cm_le s n
  refine loop_all (Sf:=fun i=>s10 s n i i (ln s i) ((i:Int) - sn s i+1)) (n:=cm s n) (e1:=.exit 0) (by simp) (fun i hi=>?_) ?_
  · refine goes_of (tell0_ok _) (noTL_ok _ _) (noLoops ids10.2.2) ((b10 s n i (ln s i) _ i).trans ?_)
    obtain ⟨h1,h2⟩:=cm_lt hi
    have h3:=ln_in s i
    have h4:=sn_in s i
    rw [decide_eq_true (show (i:Int) < (s.length:Int) by omega),decide_eq_true h2,cond_true,cond_true,ix_t h1]
    have e1:w64 ((i:Int)+1)=((i+1:Nat):Int):=wrap_nat (by omega)
    have e2:w64 (ln s i+1)=ln s i+1:=wrap_in _ (by omega)
    have e3:w64 ((i:Int) - sn s i+1+1)=(i:Int) - sn s i+1+1:=wrap_in _ (by omega)
    rw [e1,e2,e3]
    simp only [ln,sn]
    cases byt s i==10
    · simp only [cond_false]
      rw [show (i:Int) - sn s i+1+1=((i+1:Nat):Int) - sn s i+1 by omega]
    · simp only [cond_true]
      rw [show ((i+1:Nat):Int) - ((i:Int)+1)+1=1 by omega]
  · have he:=cm_end s n
    have hc:(bif decide (((cm s n:Nat):Int) < (s.length:Int)) then decide (((cm s n:Nat):Int) < n) else false)=false:=by
      by_cases h:((cm s n:Nat):Int) < (s.length:Int)
      · rw [decide_eq_true h,cond_true];exact decide_eq_false fun h2=>he ⟨by omega,h2⟩
      · rw [decide_eq_false h,cond_false]
    exact (goes_of (tell0_ok _) (noTL_ok _ _) (noLoops ids10.2.2) ((b10 s n (cm s n) (ln s (cm s n)) _ (cm s n)).trans (by rw [hc];rfl))).post (keepOf [0,4,5])
def LS10 (S:St Pl):Option (Bool×LR Pl):=match seenS 37 [0,1,4,5,6] S with
  | some ([.str s,.int .i64 n,.ptr 4 0,.ptr 5 0,.int .i64 (.ofNat 0)],[(5,.box false [.int .i64 (.ofNat 0),.int .i64 (.ofNat 1),.int .i64 (.ofNat 1)]),(4,.box false [.int .i64 (.ofNat 0),.int .i64 (.ofNat 0),.int .i64 (.ofNat 0)])]) =>
    some (Nat.ble s.length big,.leaf (.exit 0) (r10 s (cm s n) (ln s (cm s n)) (((cm s n:Nat):Int) - sn s (cm s n)+1)))
  | _=>none
theorem LS10_ok:SOk X0 (loopAt 16 0) LS10:=by
  intro S b r h hb
  unfold LS10 at h
  split at h
  · rename_i s n hs
    simp only [Option.some.injEq,Prod.mk.injEq] at h
    obtain ⟨rfl,rfl⟩:=h
    refine Goes.pre (keepOf [0,1,4,5,6]) ?_
    rw [seenS_mask hs]
    exact go10 s n (Nat.le_of_ble_eq_true hb)
  · simp at h
theorem e10 (s:Str) (a:Int):evF tell0 noTL (atL 3 LS10 noL) 1 Tryz.f16 [.str s,dI a]=ck_ (Nat.ble s.length big) (some (.agg (posM s (cm s a)))):=by kernel_rfl
theorem rat_sound (s:Str) (a:Int):Snd 16 [.str s,dI a] (.agg (posM s (cm s a))):=by
  refine SoundAt.rooms fun hroom=>snd_fn (n:=1) (tell0_ok _) (noTL_ok _ _) (fn:=Tryz.f16) (by kernel_rfl) (loops_of (fn:=Tryz.f16) (by kernel_rfl) (loops_1 ids10.1 (atL_ok (fun _=>LS10_ok) fun h=>absurd ids10.2.1 h))) ((e10 s a).trans ?_)
  have hl:s.length≤big:=hroom (.str s) (by simp)
  rw [ck_t (ble_t hl)]
end Go.Proofs.YtlnkjdedeegajaaGreatDoor
namespace Go.Proofs.YtlnkjdedeegajaaGreatDoor
open Go.Eng
set_option maxRecDepth 100000
theorem loop_run {A:Type} {body:Code} {Sf:A→St Pl} (I:A→Prop) (m:A→Nat) (res:A→Ex×St Pl)
    (step:∀a,I a→(∃b,I b∧m b < m a∧res a=res b∧Goes X0 body (Sf a) .normal (Sf b))∨((res a).1≠.normal∧Goes X0 body (Sf a) (res a).1 (res a).2)) (a:A) (ha:I a) :
    Goes X0 (.loop body) (Sf a) (res a).1 (res a).2:=by
  have key:∀(k:Nat) (a:A),m a < k→I a→∃(n:Nat) (T:Nat→St Pl),T 0=Sf a∧(∀i,i < n→Goes X0 body (T i) .normal (T (i+1)))∧(res a).1≠.normal∧Goes X0 body (T n) (res a).1 (res a).2:=by
    intro k
    induction k with
    | zero=>intro a h;omega
    | succ k ih =>
      intro a hk ha
      rcases step a ha with ⟨b,hb,hm,hr,hg⟩ | ⟨hn,hg⟩
      · obtain ⟨n,T,h0,h1,h2,h3⟩:=ih b (by omega) hb
        refine ⟨n+1,fun i=>match i with
          | 0=>Sf a
          | i+1=>T i,rfl,fun i hi=>?_,by rw [hr];exact h2,by rw [hr];exact h3⟩
        match i with
        | 0=>show Goes X0 body (Sf a) .normal (T 0);rw [h0];exact hg
        | i+1=>exact h1 i (by omega)
      · exact ⟨0,fun _=>Sf a,rfl,fun i hi=>by omega,hn,hg⟩
  obtain ⟨n,T,h0,h1,h2,h3⟩:=key (m a+1) a (by omega) ha
  rw [←h0]
  exact loop_goes h2 n T h1 h3
inductive Rnd (body:Code):St Pl→Ex→St Pl→Prop
  | stop {S S':St Pl} {e:Ex} (he:e≠.normal) (h:Goes X0 body S e S'):Rnd body S e S'
  | step {S S1 S':St Pl} {e:Ex} (h:Goes X0 body S .normal S1) (hr:Rnd body S1 e S'):Rnd body S e S'
theorem Rnd.goes {body:Code} {S S':St Pl} {e:Ex} (h:Rnd body S e S'):Goes X0 (.loop body) S e S':=by
  have key:∀{S e S'},Rnd body S e S'→e≠.normal∧∃(n:Nat) (T:Nat→St Pl),T 0=S∧(∀i,i < n→Goes X0 body (T i) .normal (T (i+1)))∧Goes X0 body (T n) e S':=by
    intro S e S' h
    induction h with
    | stop he h=>exact ⟨he,0,fun _=>_,rfl,fun i hi=>by omega,h⟩
    | step h _ ih =>
      obtain ⟨he,n,T,h0,h1,h2⟩:=ih
      rename_i S0 S1 _ _ _
      refine ⟨he,n+1,fun i=>match i with
        | 0=>S0
        | i+1=>T i,rfl,fun i hi=>?_,h2⟩
      match i with
      | 0=>show Goes X0 body S0 .normal (T 0);rw [h0];exact h
      | i+1=>exact h1 i (by omega)
  obtain ⟨he,n,T,h0,h1,h2⟩:=key h
  rw [←h0]
  exact loop_goes he n T h1 h2
noncomputable abbrev evZ (R:Eng.Told Pl) (TL:LoopsT Pl) (L:LK Pl) (n:Nat) (code:Code) (F:Fix Pl) (S:St Pl):Option (Ex×St Pl) :=
  exec X0 (callK X0 F0 R TL n) L code S (fun e S=>some (e,fixS X0.C F S))
theorem goes_ofZ {R:Eng.Told Pl} (hR:TOk R) {TL:LoopsT Pl} (hTL:LOk TL) {L:LK Pl} {n:Nat} {code:Code} {F:Fix Pl} {S S':St Pl} {e:Ex} (hL:∀b∈loopsOf code,LoopOk X0 L b)
    (h:evZ R TL L n code F S=some (e,S')):GoesTo code S e S':=by
  obtain ⟨e1,S1,h1,h2⟩:=body_goes xok fok hR hTL hL h
  simp only [Option.some.injEq,Prod.mk.injEq] at h1
  obtain ⟨rfl,rfl⟩:=h1
  exact h2.weak (Weak.fix xok F S1)
noncomputable def cB (P:Prop):Bool:=@decide P (Classical.propDecidable P)
theorem cB_t {P:Prop} (h:cB P=true):P:=@of_decide_eq_true P (Classical.propDecidable P) h
theorem cB_f {P:Prop} (h:cB P=false):¬ P:=@of_decide_eq_false P (Classical.propDecidable P) h
theorem ff_at {p:Nat→Bool} {n i:Nat} (h:i < ff p n):p i=true:=by
  rcases ff_spec n p with ⟨_,h2⟩ | ⟨_,_,h2⟩
  · exact h2 i (by rename_i h1;omega)
  · exact h2 i h
theorem ff_end (p:Nat→Bool) (n:Nat):ff p n≤n∧(ff p n < n→p (ff p n)=false):=by
  rcases ff_spec n p with ⟨h1,_⟩ | ⟨h1,h2,_⟩
  · exact ⟨by omega,fun h=>by omega⟩
  · exact ⟨by omega,fun _=>h2⟩
theorem lt_dec {i n:Nat} (h:i < n):decide ((i:Int) < (n:Int))=true:=decide_eq_true (by omega)
theorem ge_dec {i n:Nat} (h:¬ i < n):decide ((i:Int) < (n:Int))=false:=decide_eq_false (by omega)
theorem eLet (c:Int):ev tell0 noTL 1 18 [.int .u8 c]=some (.bool (bif bif decide (c ≥ 97) then decide (c≤122) else false then true else c==95)):=by kernel_rfl
theorem eDig (c:Int):ev tell0 noTL 1 19 [.int .u8 c]=some (.bool (bif decide (c ≥ 48) then decide (c≤57) else false)):=by kernel_rfl
theorem let_sound (c:Int):Snd 18 [.int .u8 c] (.bool (letB c)):=by
  refine snd_of (tell0_ok _) (noTL_ok _ _) ((eLet c).trans ?_)
  unfold letB
  by_cases h1:c ≥ 97<;>by_cases h2:c≤122<;>simp [h1,h2]
theorem dig_sound (c:Int):Snd 19 [.int .u8 c] (.bool (digB' c)):=by
  refine snd_of (tell0_ok _) (noTL_ok _ _) ((eDig c).trans ?_)
  unfold digB'
  by_cases h1:c ≥ 48<;>by_cases h2:c≤57<;>simp [h1,h2]
def sBk (s:Str) (p:Int):St Pl:=mkS 45 [(0,.str s),(1,dI p),(4,dI 0)] []
theorem bBk1 (s:Str) (p:Nat):evC tell0 noTL noL 1 (loopAt 17 1) [0,1,4] (sBk s p) =
    ixo_ p s.length (decide ((p:Int) < (s.length:Int))==true) (bif (bif decide ((p:Int) < (s.length:Int)) then byt s p != 10 else false) then some (.normal,sBk s (w64 ((p:Int)+1))) else some (.exit 2,sBk s p)):=by kernel_rfl
theorem idsBk:(loopsAt 17).length=2∧firstId (loopAt 17 0)=1∧firstId (loopAt 17 1)=3∧loopsOf (loopAt 17 1)=[]∧loopsOf (loopAt 17 0)=[loopAt 17 1]:=⟨by kernel_rfl,by kernel_rfl,by kernel_rfl,by kernel_rfl,by kernel_rfl⟩
theorem ixo_any {β:Type} {i n:Nat} {g:Bool} (h:g=true→i < n) (x:Option β):ixo_ i n g x=x:=by
  cases g with
  | false=>unfold ixo_;simp
  | true=>exact ixo_t (h rfl) _ _
def LSBk1 (S:St Pl):Option (Bool×LR Pl):=match seenS 45 [0,1,4] S with
  | some ([.str s,.int .i64 (.ofNat p),.int .i64 (.ofNat 0)],[])=>some (Nat.ble s.length big,.leaf (.exit 2) (sBk s ((p+cmt s p:Nat):Int)))
  | _=>none
theorem LSBk1_ok:SOk X0 (loopAt 17 1) LSBk1:=by
  intro S c r h hc
  unfold LSBk1 at h
  split at h
  · rename_i s p hs
    simp only [Option.some.injEq,Prod.mk.injEq] at h
    obtain ⟨rfl,rfl⟩:=h
    rw [Nat.ble_eq] at hc
    refine Goes.pre (keepOf [0,1,4]) ?_
    rw [seenS_mask hs]
    have hcl:=cmt_le s p
    refine loop_all (Sf:=fun i=>sBk s ((p+i:Nat):Int)) (n:=cmt s p) (by simp) (fun i hi=>goes_of (tell0_ok _) (noTL_ok _ _) (noLoops idsBk.2.2.2.1) ((bBk1 s (p+i)).trans ?_)) (goes_of (tell0_ok _) (noTL_ok _ _) (noLoops idsBk.2.2.2.1) ((bBk1 s (p+cmt s p)).trans ?_))
    · have h1:=ff_at hi
      rw [byt_drop] at h1
      rw [ixo_any (fun _=>by omega),lt_dec (by omega),cond_true,show (byt s (p+i) != 10)=true from h1,cond_true,show w64 (((p+i:Nat):Int)+1)=((p+(i+1):Nat):Int) from wrap_nat (by omega)]
    · rw [ixo_any (fun hg=>by simp at hg;omega)]
      by_cases hlt:p+cmt s p < s.length
      · have h1:(!(byt (s.drop p) (cmt s p)==10))=false:=(ff_end (fun i=>!(byt (s.drop p) i==10)) (s.drop p).length).2 (show cmt s p < (s.drop p).length by rw [List.length_drop];omega)
        rw [byt_drop] at h1
        rw [lt_dec hlt,cond_true,show (byt s (p+cmt s p) != 10)=false from h1];rfl
      · rw [ge_dec hlt];rfl
  · simp at h
def sBo (s:Str) (p:Int):St Pl:=mkS 45 [(0,.str s),(1,dI p),(4,dI 0)] []
def sBr (s:Str) (p:Int):St Pl:=mkS 45 [(0,.str s),(1,dI p),(4,dI p)] []
def b1 (c:Int):Bool:=c != 32
def b2 (c:Int):Bool:=bif c != 32 then c != 10 else false
def b3 (c:Int):Bool:=bif b2 c then c != 9 else false
theorem b3_eq (c:Int):b3 c=!(isB c):=by
  unfold b3 b2 isB
  by_cases h1:c=32
  · subst h1;rfl
  · by_cases h2:c=10
    · subst h2;rfl
    · by_cases h3:c=9
      · subst h3;rfl
      · rw [bne_iff_ne.2 h1,bne_iff_ne.2 h2,bne_iff_ne.2 h3,beq_eq_false_iff_ne.2 h1,beq_eq_false_iff_ne.2 h2,beq_eq_false_iff_ne.2 h3];rfl
theorem bBk0 (s:Str) (p:Nat):evC tell0 noTL (atL 3 LSBk1 noL) 1 (loopAt 17 0) [0,1,4] (sBo s p) =
    lt_ p s.length (ix_ p s.length (bif byt s p==35 then ck_ (Nat.ble s.length big) (some (.normal,sBo s ((p+cmt s p:Nat):Int)))
      else ix_ p s.length (ixo_ p s.length (b1 (byt s p)==true) (ixo_ p s.length (b2 (byt s p)==true) (bif b3 (byt s p) then some (.ret,sBr s p) else some (.normal,sBo s (w64 ((p:Int)+1)))))))) (some (.exit 0,sBo s p)):=by kernel_rfl
def stB (s:Str) (p:Nat):Ex×St Pl:=bif Nat.blt p s.length then (.ret,sBr s p) else (.exit 0,sBo s p)
theorem goBk (s:Str) (hl:s.length≤big) (p:Nat) (hp:p≤s.length):Goes X0 (.loop (loopAt 17 0)) (sBo s p) (stB s (blankM s p)).1 (stB s (blankM s p)).2:=by
  have hL:∀b∈loopsOf (loopAt 17 0),LoopOk X0 (atL 3 LSBk1 noL) b:=by
    rw [idsBk.2.2.2.2]
    intro b hb
    rw [List.mem_singleton] at hb
    subst hb
    exact atL_ok (fun _=>LSBk1_ok) fun h=>absurd idsBk.2.2.1 h
  refine loop_run (Sf:=fun p:Nat=>sBo s p) (fun p=>p≤s.length) (fun p=>s.length - p) (fun p=>stB s (blankM s p)) (fun p hp=>?_) p hp
  have step:=fun e S' (h:_=some (e,S'))=>goes_of (tell0_ok _) (noTL_ok _ _) hL ((bBk0 s p).trans h)
  by_cases h:p < s.length
  · rw [lt_t h,ix_t h,ck_t (ble_t hl),ix_t h,ixo_t h,ixo_t h,b3_eq,show w64 ((p:Int)+1)=((p+1:Nat):Int) from wrap_nat (by omega)] at step
    rw [blankM_eq h]
    cases h35:byt s p==35 with
    | true =>
      have hB:isB (byt s p)=false:=by rw [beq_iff_eq] at h35;rw [h35];rfl
      have h1:=cmt_pos h h35
      have h2:=cmt_le s p
      rw [h35] at step
      exact .inl ⟨p+cmt s p,by omega,by omega,by rw [hB];rfl,step _ _ rfl⟩
    | false =>
      rw [h35] at step
      cases hB:isB (byt s p) with
      | true=>rw [hB] at step;exact .inl ⟨p+1,by omega,by omega,rfl,step _ _ rfl⟩
      | false =>
        rw [hB] at step
        have e:stB s p=(.ret,sBr s p):=by unfold stB;rw [blt_t h];rfl
        exact .inr (by show (stB s p).1≠_∧Goes X0 _ _ (stB s p).1 (stB s p).2;rw [e];exact ⟨by simp,step _ _ rfl⟩)
  · rw [lt_f h] at step
    rw [blankM_end h]
    have e:stB s p=(.exit 0,sBo s p):=by unfold stB;rw [blt_f h];rfl
    exact .inr (by rw [e];exact ⟨by simp,step _ _ rfl⟩)
def LSBk0 (S:St Pl):Option (Bool×LR Pl):=match seenS 45 [0,1,4] S with
  | some ([.str s,.int .i64 (.ofNat p),.int .i64 (.ofNat 0)],[])=>some (Nat.ble s.length big&&Nat.ble p s.length,.ite (Nat.blt (blankM s p) s.length) (.leaf .ret (sBr s (blankM s p))) (.leaf (.exit 0) (sBo s (blankM s p))))
  | _=>none
theorem LSBk0_ok:SOk X0 (loopAt 17 0) LSBk0:=by
  intro S c r h hc
  unfold LSBk0 at h
  split at h
  · rename_i s p hs
    simp only [Option.some.injEq,Prod.mk.injEq] at h
    obtain ⟨rfl,rfl⟩:=h
    rw [Bool.and_eq_true,Nat.ble_eq,Nat.ble_eq] at hc
    refine Goes.pre (keepOf [0,1,4]) ?_
    rw [seenS_mask hs]
    have:=goBk s hc.1 p hc.2
    unfold stB at this
    cases hb:Nat.blt (blankM s p) s.length<;>rw [hb] at this<;>exact this
  · simp at h
theorem eBk (s:Str) (p:Nat):evF tell0 noTL (atL 1 LSBk0 (atL 3 LSBk1 noL)) 1 Tryz.f17 [.str s,dI p] =
    ck_ (Nat.ble s.length big&&Nat.ble p s.length) (bif Nat.blt (blankM s p) s.length then some (dI (blankM s p)) else some (dI (blankM s p))):=by kernel_rfl
theorem blank_sound (s:Str) (p:Nat) (hp:p≤s.length):Snd 17 [.str s,dI p] (dI (blankM s p)):=by
  have hLs:∀i,i < (loopsAt 17).length→LoopOk X0 (atL 1 LSBk0 (atL 3 LSBk1 noL)) (loopAt 17 i) :=
    loops_2 idsBk.1 (atL_ok (fun _=>LSBk0_ok) fun h=>absurd idsBk.2.1 h) (atL_ok (fun h=>absurd (idsBk.2.2.1.symm.trans h) (by decide)) fun _=>atL_ok (fun _=>LSBk1_ok) fun h=>absurd idsBk.2.2.1 h)
  refine SoundAt.rooms fun hroom=>snd_fn (n:=1) (tell0_ok _) (noTL_ok _ _) (fn:=Tryz.f17) (by kernel_rfl) (loops_of (fn:=Tryz.f17) (by kernel_rfl) hLs) ((eBk s p).trans ?_)
  have hl:s.length≤big:=hroom (.str s) (by simp)
  rw [ck_t (by rw [ble_t hl,ble_t hp];rfl)]
  cases Nat.blt (blankM s p) s.length<;>rfl
end Go.Proofs.YtlnkjdedeegajaaGreatDoor
namespace Go.Proofs.YtlnkjdedeegajaaGreatDoor
open Go.Eng
set_option maxRecDepth 100000
def pAtD:List (D Pl)→Option (Bool×D Pl)
  | [.str s,.int .i64 a]=>some (true,.agg (posM s (cm s a)))
  | _=>none
theorem pAtD_ok:∀ds b d,pAtD ds=some (b,d)→b=true→Snd 16 ds d:=by
  intro ds b d h hb
  unfold pAtD at h
  split at h
  · simp only [Option.some.injEq,Prod.mk.injEq] at h;obtain ⟨_,rfl⟩:=h;exact rat_sound _ _
  · simp at h
def tAt (R:Eng.Told Pl):Eng.Told Pl:=tell 16 pAtD R
theorem tAt_ok {R:Eng.Told Pl} (h:TOk R):TOk (tAt R):=tell_ok pAtD_ok h
theorem cm_at {s:Str} {p:Nat} (h:p≤s.length):cm s p=p:=by
  have e1:mn s p=p:=by unfold mn;rw [decide_eq_false (show ¬ ((s.length:Int) < (p:Int)) by omega)];rfl
  unfold cm cl
  rw [e1]
  by_cases h0:(p:Int) > 0
  · rw [decide_eq_true h0];rfl
  · rw [decide_eq_false h0,cond_false];omega
def sPi (nm:Nat) (s b:Str) (out:List PartR) (p q:Int):St Pl:=mkS 154 [(0,.str s),(1,dI p),(4,.nilS),(5,dI 0),(6,.bool false),(7,.arr nm),(8,.str b),(10,dI q)] [(nm,.arr false (pParts out))]
def q1 (l:Bool) (c:Int):Bool:=bif l then c != 34 else false
def q2 (l:Bool) (c:Int):Bool:=bif q1 l c then c != 123 else false
def q3 (l:Bool) (c:Int):Bool:=bif q2 l c then c != 125 else false
def q4 (l:Bool) (c:Int):Bool:=bif q3 l c then c != 10 else false
theorem q4_eq (c:Int):q4 true c=!(isQ c):=by
  unfold q4 q3 q2 q1 isQ
  by_cases h1:c=34
  · subst h1;rfl
  · by_cases h2:c=123
    · subst h2;rfl
    · by_cases h3:c=125
      · subst h3;rfl
      · by_cases h4:c=10
        · subst h4;rfl
        · rw [bne_iff_ne.2 h1,bne_iff_ne.2 h2,bne_iff_ne.2 h3,bne_iff_ne.2 h4,beq_eq_false_iff_ne.2 h1,beq_eq_false_iff_ne.2 h2,beq_eq_false_iff_ne.2 h3,beq_eq_false_iff_ne.2 h4];rfl
theorem bPi (nm:Nat) (s b:Str) (out:List PartR) (p:Int) (q:Nat):evC tell0 noTL noL 1 (loopAt 21 1) [0,1,4,5,6,7,8,10] (sPi nm s b out p q) =
    ixo_ q s.length (decide ((q:Int) < (s.length:Int))==true) (ixo_ q s.length (q1 (decide ((q:Int) < (s.length:Int))) (byt s q)==true) (ixo_ q s.length (q2 (decide ((q:Int) < (s.length:Int))) (byt s q)==true) (ixo_ q s.length (q3 (decide ((q:Int) < (s.length:Int))) (byt s q)==true)
      (bif q4 (decide ((q:Int) < (s.length:Int))) (byt s q) then some (.normal,sPi nm s b out p (w64 ((q:Int)+1))) else some (.exit 3,sPi nm s b out p q))))):=by kernel_rfl
theorem idsP:(loopsAt 21).length=2∧firstId (loopAt 21 0)=3∧firstId (loopAt 21 1)=30∧loopsOf (loopAt 21 1)=[]∧loopsOf (loopAt 21 0)=[loopAt 21 1]:=⟨by kernel_rfl,by kernel_rfl,by kernel_rfl,by kernel_rfl,by kernel_rfl⟩
def LSPi (S:St Pl):Option (Bool×LR Pl):=match seenS 154 [0,1,4,5,6,7,8,10] S with
  | some ([.str s,.int .i64 p,.nilS,.int .i64 (.ofNat 0),.bool false,.arr nm,.str b,.int .i64 q],[(nm',.arr false ⟨.parts,out⟩)])=>some (Nat.beq nm nm'&&(decide (0≤q)&&Nat.ble s.length big),.leaf (.exit 3) (sPi nm s b out p ((q.toNat+pcn s q.toNat:Nat):Int)))
  | _=>none
theorem LSPi_ok:SOk X0 (loopAt 21 1) LSPi:=by
  intro S c r h hc
  unfold LSPi at h
  split at h
  · rename_i s p nm b q nm' out hs
    simp only [Option.some.injEq,Prod.mk.injEq] at h
    obtain ⟨rfl,rfl⟩:=h
    rw [Bool.and_eq_true,Bool.and_eq_true,Nat.ble_eq] at hc
    obtain ⟨hnm,hq,hc⟩:=hc
    obtain rfl:=Nat.eq_of_beq_eq_true hnm
    obtain ⟨q,rfl⟩:=Int.eq_ofNat_of_zero_le (of_decide_eq_true hq)
    refine Goes.pre (keepOf [0,1,4,5,6,7,8,10]) ?_
    rw [seenS_mask hs]
    have hcl:=pcn_le s q
    show Goes X0 _ _ _ (sPi nm s b out p ((q+pcn s q:Nat):Int))
    refine loop_all (Sf:=fun i=>sPi nm s b out p ((q+i:Nat):Int)) (n:=pcn s q) (by simp) (fun i hi=>goes_of (tell0_ok _) (noTL_ok _ _) (noLoops idsP.2.2.2.1) ((bPi nm s b out p (q+i)).trans ?_)) (goes_of (tell0_ok _) (noTL_ok _ _) (noLoops idsP.2.2.2.1) ((bPi nm s b out p (q+pcn s q)).trans ?_))
    · have h1:=ff_at hi
      rw [byt_drop] at h1
      rw [ixo_any (fun _=>by omega),ixo_any (fun _=>by omega),ixo_any (fun _=>by omega),ixo_any (fun _=>by omega),lt_dec (by omega),q4_eq,h1,cond_true,show w64 (((q+i:Nat):Int)+1)=((q+(i+1):Nat):Int) from wrap_nat (by omega)]
    · by_cases hlt:q+pcn s q < s.length
      · have h1:(!(isQ (byt (s.drop q) (pcn s q))))=false:=(ff_end (fun i=>!(isQ (byt (s.drop q) i))) (s.drop q).length).2 (show pcn s q < (s.drop q).length by rw [List.length_drop];omega)
        rw [byt_drop] at h1
        rw [ixo_any (fun _=>by omega),ixo_any (fun _=>by omega),ixo_any (fun _=>by omega),ixo_any (fun _=>by omega),lt_dec hlt,q4_eq,h1];rfl
      · rw [ge_dec hlt]
        rw [ixo_any (fun h=>by simp at h),ixo_any (fun h=>by simp [q1] at h),ixo_any (fun h=>by simp [q1,q2] at h),ixo_any (fun h=>by simp [q1,q2,q3] at h)];rfl
  · simp at h
section
variable {β:Type}
def bI (s:Str) (a:Int):Int:=Int.ofNat (s.getD a.toNat 0).toNat
def ixI (s:Str) (a:Int) (g:Bool) (x:Option β):Option β:=bif (decide (0≤a)&&decide (a < (s.length:Int)))||!g then x else none
def slI (s:Str) (a b:Int):Str:=(s.drop a.toNat).take (b.toNat - a.toNat)
def slK (s:Str) (a b:Int) (k:Str→Option β):Option β:=ck_ ((decide (0≤a)&&decide (a≤b)&&decide (b≤(s.length:Int)))||false) (k (slI s a b))
def catK (x y:Str) (k:Str→Option β):Option β:=ck_ (Nat.ble (x.length+y.length) big||false) (k (x++y))
def apK {γ:Type} (n:Nat) (o:List γ) (x:γ) (k:List γ→Option β):Option β:=ck_ (true&&Nat.ble ((o.length+1) * n) big) (k (o++[x]))
end
def sPt (nm:Nat) (s b:Str) (out:List PartR) (p:Int):St Pl:=mkS 154 [(0,.str s),(1,dI p),(4,.nilS),(5,dI 0),(6,.bool false),(7,.arr nm),(8,.str b)] [(nm,.arr false (pParts out))]
def sPo (nm:Nat) (s b:Str) (out:List PartR) (p:Nat):St Pl:=mkS 154 [(0,.str s),(1,dI p),(4,.arr nm),(5,dI (w64 ((p:Int)+1))),(6,.bool true),(7,.arr nm),(8,.str b)] [(nm,.arr false (pParts out))]
def txP (b:Str):PartR:=⟨false,b,⟨0,0,0⟩⟩
def escK (s b:Str) (out:List PartR) (p:Nat) (e:Int):Option (Ex×St Pl) :=
  let G:=slK s (w64 ((p:Int)+1)) (w64 ((p:Int)+2)) fun x=>catK b x fun y=>some (.normal,sPt 142 s y out (w64 ((p:Int)+2)))
  let H:=fun x:Str=>catK b x fun y=>some (.normal,sPt 142 s y out (w64 ((p:Int)+2)))
  let R:=bif e==110 then H [10] else bif e==116 then H [9] else some (.ret,sPt 142 s b out p)
  bif e==34 then (bif e==34 then G else R) else bif e==92 then (bif e==92 then G else R) else bif e==36 then G else R
def d2 (s:Str) (p:Nat):Bool:=bif byt s p==36 then decide (w64 ((p:Int)+1) < (s.length:Int)) else false
def d3 (s:Str) (p:Nat):Bool:=bif d2 s p then bI s (w64 ((p:Int)+1))==123 else false
def qE (s:Str) (p:Nat):Nat:=(w64 ((p:Int)+2)).toNat+pcn s (w64 ((p:Int)+2)).toNat
def qB (s:Str) (p:Nat):Bool:=bif decide ((qE s p:Int) ≥ (s.length:Int)) then true else byt s (qE s p) != 125
def pcP (s:Str) (p:Nat):PartR:=⟨true,slI s (w64 ((p:Int)+2)) (qE s p),⟨cm s (w64 ((p:Int)+2)),ln s (cm s (w64 ((p:Int)+2))),(cm s (w64 ((p:Int)+2)):Int) - sn s (cm s (w64 ((p:Int)+2)))+1⟩⟩
def exK (nm:Nat) (s b:Str) (p:Nat) (o:List PartR):Option (Ex×St Pl) :=
  ck_ (decide (0≤w64 ((p:Int)+2))&&Nat.ble s.length big) (ixo_ (qE s p) s.length (decide ((qE s p:Int) ≥ (s.length:Int))==false) (bif qB s p then some (.ret,sPt nm s b o p)
    else slK s (w64 ((p:Int)+2)) (qE s p) fun _=>apK 48 o (pcP s p) fun o'=>some (.normal,sPt 142 s b o' (w64 ((qE s p:Int)+1)))))
theorem bP0 (s b:Str) (out:List PartR) (p:Nat):evD (tAt tell0) noTL (atL 30 LSPi noL) 1 (loopAt 21 0) [0,1,4,5,6,7,8] [] (sPt 142 s b out p) =
    lt_ p s.length (ix_ p s.length (bif byt s p==10 then some (.ret,sPt 142 s b out p)
      else bif byt s p==34 then (bif b != [] then apK 48 out (txP b) fun o=>some (.ret,sPo 28 s b o p) else some (.ret,sPo 142 s b out p))
      else bif byt s p==92 then (bif decide (w64 ((p:Int)+1) ≥ (s.length:Int)) then some (.ret,sPt 142 s b out p) else ixI s (w64 ((p:Int)+1)) true (escK s b out p (bI s (w64 ((p:Int)+1)))))
      else ixI s (w64 ((p:Int)+1)) (d2 s p==true) (bif d3 s p then (bif b != [] then apK 48 out (txP b) fun o=>exK 87 s [] p o else exK 142 s b p out)
      else slK s p (w64 ((p:Int)+1)) fun x=>catK b x fun y=>some (.normal,sPt 142 s y out (w64 ((p:Int)+1)))))) (some (.exit 0,sPt 142 s b out p)):=by kernel_rfl
theorem bI_nat (s:Str) (k:Nat):bI s ((k:Nat):Int)=byt s k:=rfl
theorem ixI_t {β:Type} {s:Str} {a:Int} {g:Bool} {x:Option β} (h:g=true→0≤a∧a < (s.length:Int)):ixI s a g x=x:=by
  unfold ixI
  cases g with
  | false=>simp
  | true=>obtain ⟨h1,h2⟩:=h rfl;rw [decide_eq_true h1,decide_eq_true h2];rfl
theorem slK_t {β:Type} {s:Str} {a b:Nat} {k:Str→Option β} (h1:a≤b) (h2:b≤s.length):slK s a b k=k (sl s a (b - a)):=by
  unfold slK
  rw [ck_t (by rw [decide_eq_true (show (0:Int)≤(a:Int) by omega),decide_eq_true (show (a:Int)≤(b:Int) by omega),decide_eq_true (show (b:Int)≤(s.length:Int) by omega)];rfl)]
  rfl
theorem catK_t {β:Type} {x y:Str} {k:Str→Option β} (h:x.length+y.length≤big):catK x y k=k (x++y):=by
  unfold catK;rw [ck_t (by rw [ble_t h];rfl)]
theorem apK_t {β γ:Type} {n:Nat} {o:List γ} {x:γ} {k:List γ→Option β} (h:(o.length+1) * n≤big):apK n o x k=k (o++[x]):=by
  unfold apK;rw [ck_t (by rw [ble_t h];rfl)]
theorem sl1_eq {s:Str} {p:Nat} (h:p < s.length):sl s p 1=[s.getD p 0]:=by
  unfold sl
  rw [List.drop_eq_getElem_cons h,List.take_succ_cons,List.take_zero,List.getD_eq_getElem?_getD,List.getElem?_eq_getElem h]
  rfl
theorem byt_u8 (s:Str) (p:Nat):(byt s p).toNat.toUInt8=s.getD p 0:=by
  show (Int.ofNat (s.getD p 0).toNat).toNat.toUInt8=_
  simp
def rOk (nm:Nat) (l:List PartR) (q:Nat):St Pl:=mkS 154 [(4,.arr nm),(5,dI q),(6,.bool true)] [(nm,.arr false (pParts l))]
def rFl:St Pl:=mkS 154 [(4,.nilS),(5,dI 0),(6,.bool false)] []
abbrev RndP:=Rnd (loopAt 21 0)
theorem fl_nil (out:List PartR):fl out []=out:=rfl
theorem fl_ne {b:Str} (out:List PartR) (h:b≠[]):fl out b=out++[txP b]:=by
  cases b with
  | nil=>exact absurd rfl h
  | cons x b=>rfl
theorem rndP (s:Str) (hl:s.length≤100000):∀(n p:Nat) (out:List PartR) (b:Str),s.length - p=n→p≤s.length→out.length≤p→b.length≤p →
    ((bodyM s p out b).ok=true→RndP (sPt 142 s b out p) .ret (rOk 28 (bodyM s p out b).l (bodyM s p out b).q)∨RndP (sPt 142 s b out p) .ret (rOk 142 (bodyM s p out b).l (bodyM s p out b).q)) ∧
    ((bodyM s p out b).ok=false→RndP (sPt 142 s b out p) .ret rFl∨RndP (sPt 142 s b out p) (.exit 0) rFl):=by
  have hbig:big=140737488355328:=rfl
  have hL:∀b∈loopsOf (loopAt 21 0),LoopOk X0 (atL 30 LSPi noL) b:=by
    rw [idsP.2.2.2.2]
    intro b hb
    rw [List.mem_singleton] at hb
    subst hb
    exact atL_ok (fun _=>LSPi_ok) fun h=>absurd idsP.2.2.1 h
  intro n
  induction n using Nat.strongRecOn with
  | _ n ih =>
  intro p out b hn hp ho hb
  have step:∀e S',_=some (e,S')→Goes X0 (loopAt 21 0) (sPt 142 s b out p) e S':=fun e S' h=>goes_ofD (tAt_ok (tell0_ok _)) (noTL_ok _ _) hL ((bP0 s b out p).trans h)
  have fails:∀(e:Ex) (nm:Nat) (b':Str) (o:List PartR) (p':Int),e≠.normal→(Nat.beq nm 142||Nat.beq nm 87)=true→Goes X0 (loopAt 21 0) (sPt 142 s b out p) e (sPt nm s b' o p')→RndP (sPt 142 s b out p) e rFl:=by
    intro e nm b' o p' he hnm h
    refine .stop he ?_
    have:=h.norm xok (keepOf [4,5,6]) (keepOf [142,87])
    rw [Bool.or_eq_true] at hnm
    rcases hnm with hnm | hnm<;>(obtain rfl:=Nat.eq_of_beq_eq_true hnm;exact this)
  by_cases h:p < s.length
  · have w1:w64 ((p:Int)+1)=((p+1:Nat):Int):=wrap_nat (by omega)
    have w2:w64 ((p:Int)+2)=((p+2:Nat):Int):=by
      have:=wrap_in ((p:Int)+2) (by omega)
      exact this.trans (by omega)
    rw [lt_t h,ix_t h] at step
    rw [bodyM_eq,blt_t h]
    simp only [Bool.not_true,cond_false]
    cases h10:byt s p==10 with
    | true =>
      have h34:(byt s p==34)=false:=by rw [beq_iff_eq] at h10;rw [h10];rfl
      rw [h10] at step
      rw [h34,cond_false,cond_true]
      exact ⟨fun h=>by simp at h,fun _=>.inl (fails _ 142 b out p (by simp) rfl (step _ _ rfl))⟩
    | false =>
    rw [h10,cond_false] at step
    cases h34:byt s p==34 with
    | true =>
      rw [h34,cond_true] at step
      rw [cond_true]
      refine ⟨fun _=>?_,fun h=>by simp at h⟩
      cases hbn:b != [] with
      | true =>
        have hne:b≠[]:=by rw [bne_iff_ne] at hbn;exact hbn
        rw [hbn,cond_true,apK_t (by omega)] at step
        rw [fl_ne out hne]
        have h1:=(step _ _ rfl).norm xok (keepOf [4,5,6]) (keepOf [])
        refine .inl (.stop (by simp) ?_)
        have e:normS (keepOf [4,5,6]) (keepOf []) (sPo 28 s b (out++[txP b]) p)=rOk 28 (out++[txP b]) (p+1):=by
          show mkS 154 [(4,.arr 28),(5,dI (w64 ((p:Int)+1))),(6,.bool true)] _=_
          rw [w1];rfl
        rw [e] at h1
        exact h1
      | false =>
        have he:b=[]:=by simpa using hbn
        subst he
        rw [hbn,cond_false] at step
        rw [fl_nil]
        have h1:=(step _ _ rfl).norm xok (keepOf [4,5,6]) (keepOf [])
        refine .inr (.stop (by simp) ?_)
        have e:normS (keepOf [4,5,6]) (keepOf []) (sPo 142 s [] out p)=rOk 142 out (p+1):=by
          show mkS 154 [(4,.arr 142),(5,dI (w64 ((p:Int)+1))),(6,.bool true)] _=_
          rw [w1];rfl
        rw [e] at h1
        exact h1
    | false =>
    rw [h34,cond_false] at step
    cases h92:byt s p==92 with
    | true =>
      rw [h92,cond_true,w1] at step
      simp only [cond_true,cond_false]
      by_cases h1:p+1 < s.length
      · rw [decide_eq_false (by omega),cond_false,ixI_t (fun _=>by omega),bI_nat] at step
        rw [blt_t h1]
        simp only [Bool.not_true,cond_false]
        generalize he:byt s (p+1)=e at *
        have hG:∀y:Str,y.length=1→([(escV e).toNat.toUInt8]=y)→escB e=true→Goes X0 (loopAt 21 0) (sPt 142 s b out p) .normal (sPt 142 s (b++y) out ((p+2:Nat):Int)) →
            (((bif escB e then bodyM s (p+2) out (b++[(escV e).toNat.toUInt8]) else ⟨false,[],p⟩:BodyO).ok=true→RndP (sPt 142 s b out p) .ret (rOk 28 (bif escB e then bodyM s (p+2) out (b++[(escV e).toNat.toUInt8]) else ⟨false,[],p⟩:BodyO).l (bif escB e then bodyM s (p+2) out (b++[(escV e).toNat.toUInt8]) else ⟨false,[],p⟩:BodyO).q)∨RndP (sPt 142 s b out p) .ret (rOk 142 (bif escB e then bodyM s (p+2) out (b++[(escV e).toNat.toUInt8]) else ⟨false,[],p⟩:BodyO).l (bif escB e then bodyM s (p+2) out (b++[(escV e).toNat.toUInt8]) else ⟨false,[],p⟩:BodyO).q)) ∧
            ((bif escB e then bodyM s (p+2) out (b++[(escV e).toNat.toUInt8]) else ⟨false,[],p⟩:BodyO).ok=false→RndP (sPt 142 s b out p) .ret rFl∨RndP (sPt 142 s b out p) (.exit 0) rFl)):=by
          intro y hy hyv hE hg
          rw [hE,cond_true,hyv]
          have:=ih (s.length - (p+2)) (by omega) (p+2) out (b++y) rfl (by omega) (by omega) (by rw [List.length_append];omega)
          exact ⟨fun h=>(this.1 h).imp (.step hg) (.step hg),fun h=>(this.2 h).imp (.step hg) (.step hg)⟩
        have hGs:(e==34||e==92||e==36)=true→escV e=e∧escB e=true:=by
          intro h
          unfold escV escB
          revert h
          cases e==34<;>cases e==92<;>cases e==36<;>intro h<;>first | exact ⟨rfl,rfl⟩ | exact absurd h (by decide)
        unfold escK at step
        simp only at step
        rw [w1,w2,slK_t (by omega) (by omega),show p+2 - (p+1)=1 by omega,sl1_eq h1,catK_t (by simp;omega),catK_t (by simp;omega),catK_t (by simp;omega)] at step
        have hv:[e.toNat.toUInt8]=[s.getD (p+1) 0]:=by rw [←he,byt_u8]
        cases c1:e==34 with
        | true =>
          obtain ⟨g1,g2⟩:=hGs (by rw [c1];rfl)
          rw [c1] at step
          exact hG _ rfl (by rw [g1];exact hv) g2 (step _ _ rfl)
        | false =>
        rw [c1] at step
        cases c2:e==92 with
        | true =>
          obtain ⟨g1,g2⟩:=hGs (by rw [c2];simp)
          rw [c2] at step
          exact hG _ rfl (by rw [g1];exact hv) g2 (step _ _ rfl)
        | false =>
        rw [c2] at step
        cases c3:e==36 with
        | true =>
          obtain ⟨g1,g2⟩:=hGs (by rw [c3];simp)
          rw [c3] at step
          exact hG _ rfl (by rw [g1];exact hv) g2 (step _ _ rfl)
        | false =>
        rw [c3] at step
        cases c4:e==110 with
        | true =>
          rw [c4] at step
          exact hG [10] rfl (by unfold escV;rw [c1,c2,c3,c4];rfl) (by unfold escB;rw [c1,c2,c3,c4];rfl) (step _ _ rfl)
        | false =>
        rw [c4] at step
        cases c5:e==116 with
        | true =>
          rw [c5] at step
          exact hG [9] rfl (by unfold escV;rw [c1,c2,c3,c4,c5];rfl) (by unfold escB;rw [c1,c2,c3,c4,c5];rfl) (step _ _ rfl)
        | false =>
          rw [c5] at step
          rw [show escB e=false by unfold escB;rw [c1,c2,c3,c4,c5];rfl]
          exact ⟨fun h=>by simp at h,fun _=>.inl (fails _ 142 b out p (by simp) rfl (step _ _ rfl))⟩
      · rw [decide_eq_true (by omega),cond_true] at step
        rw [blt_f h1]
        exact ⟨fun h=>by simp at h,fun _=>.inl (fails _ 142 b out p (by simp) rfl (step _ _ rfl))⟩
    | false =>
    rw [h92,cond_false] at step
    simp only [cond_false]
    have hd:d3 s p=two s p 36 123:=by
      unfold d3 d2 two
      rw [w1,bI_nat]
      cases byt s p==36 with
      | false=>rfl
      | true =>
        rw [cond_true,Bool.true_and]
        by_cases h1:p+1 < s.length
        · rw [decide_eq_true (by omega)];rfl
        · rw [decide_eq_false (by omega),byt_out h1];rfl
    rw [ixI_t (fun hg=>by
      rw [beq_iff_eq] at hg
      unfold d2 at hg
      cases h36:byt s p==36 with
      | false=>rw [h36] at hg;simp at hg
      | true=>rw [h36,cond_true,decide_eq_true_eq] at hg;rw [w1] at hg ⊢;omega),hd] at step
    cases ht:two s p 36 123 with
    | true =>
      have h1:=two_in ht (by omega)
      rw [ht,cond_true] at step
      rw [cond_true]
      have hqE:qE s p=p+2+pcn s (p+2):=by unfold qE;rw [w2];rfl
      have hcl:=pcn_le s (p+2)
      have hqB:qB s p=!(pcOk s (p+2)):=by
        unfold qB pcOk
        rw [hqE,List.length_drop]
        by_cases h2:p+2+pcn s (p+2) < s.length
        · rw [decide_eq_false (by omega),cond_false,blt_t (by omega),Bool.true_and];rfl
        · rw [decide_eq_true (by omega),cond_true,blt_f (by omega)];rfl
      have hx:∀(nm:Nat) (b':Str) (o:List PartR),o.length≤p+1→exK nm s b' p o=bif pcOk s (p+2) then some (.normal,sPt 142 s b' (o++[pieceR s (p+2)]) ((p+2+pcn s (p+2)+1:Nat):Int)) else some (.ret,sPt nm s b' o p):=by
        intro nm b' o hlo
        unfold exK
        rw [w2,ck_t (by rw [decide_eq_true (by omega),ble_t (by omega)];rfl),hqB]
        rw [ixo_any (fun hg=>by rw [beq_iff_eq,decide_eq_false_iff_not] at hg;omega)]
        cases hpc:pcOk s (p+2) with
        | false=>rfl
        | true =>
          have hlt:=pcOk_lt hpc
          have hpp:pcP s p=pieceR s (p+2):=by
            unfold pcP pieceR posR
            rw [w2,cm_at (by omega),hqE]
            congr 1
            show (s.drop (p+2)).take (p+2+pcn s (p+2) - (p+2))=_
            rw [show p+2+pcn s (p+2) - (p+2)=pcn s (p+2) by omega]
            rfl
          simp only [Bool.not_true,cond_false,cond_true]
          rw [hqE,slK_t (by omega) (by omega),apK_t (by omega),hpp,show w64 (((p+2+pcn s (p+2):Nat):Int)+1)=((p+2+pcn s (p+2)+1:Nat):Int) from wrap_nat (by omega)]
      have fin:∀(nm:Nat) (b':Str) (o:List PartR),b'=[]→o=fl out b→o.length≤p+1→(Nat.beq nm 142||Nat.beq nm 87)=true→(∀e S',exK nm s b' p o=some (e,S')→Goes X0 (loopAt 21 0) (sPt 142 s b out p) e S') →
          (((bif pcOk s (p+2) then bodyM s (p+2+pcn s (p+2)+1) (fl out b++[pieceR s (p+2)]) [] else ⟨false,[],p+2⟩:BodyO).ok=true→RndP (sPt 142 s b out p) .ret (rOk 28 (bif pcOk s (p+2) then bodyM s (p+2+pcn s (p+2)+1) (fl out b++[pieceR s (p+2)]) [] else ⟨false,[],p+2⟩:BodyO).l (bif pcOk s (p+2) then bodyM s (p+2+pcn s (p+2)+1) (fl out b++[pieceR s (p+2)]) [] else ⟨false,[],p+2⟩:BodyO).q)∨RndP (sPt 142 s b out p) .ret (rOk 142 (bif pcOk s (p+2) then bodyM s (p+2+pcn s (p+2)+1) (fl out b++[pieceR s (p+2)]) [] else ⟨false,[],p+2⟩:BodyO).l (bif pcOk s (p+2) then bodyM s (p+2+pcn s (p+2)+1) (fl out b++[pieceR s (p+2)]) [] else ⟨false,[],p+2⟩:BodyO).q)) ∧
          ((bif pcOk s (p+2) then bodyM s (p+2+pcn s (p+2)+1) (fl out b++[pieceR s (p+2)]) [] else ⟨false,[],p+2⟩:BodyO).ok=false→RndP (sPt 142 s b out p) .ret rFl∨RndP (sPt 142 s b out p) (.exit 0) rFl)):=by
        intro nm b' o hb' ho' hlo hnm hg
        subst hb' ho'
        rw [hx nm [] _ hlo] at hg
        cases hpc:pcOk s (p+2) with
        | false =>
          rw [hpc] at hg
          exact ⟨fun h=>by simp at h,fun _=>.inl (fails _ nm [] _ p (by simp) hnm (hg _ _ rfl))⟩
        | true =>
          rw [hpc,cond_true] at hg
          have hlt:=pcOk_lt hpc
          have:=ih (s.length - (p+2+pcn s (p+2)+1)) (by omega) (p+2+pcn s (p+2)+1) (fl out b++[pieceR s (p+2)]) [] rfl (by omega) (by rw [List.length_append,List.length_singleton];omega) (by simp)
          exact ⟨fun h=>(this.1 h).imp (.step (hg _ _ rfl)) (.step (hg _ _ rfl)),fun h=>(this.2 h).imp (.step (hg _ _ rfl)) (.step (hg _ _ rfl))⟩
      cases hbn:b != [] with
      | true =>
        have hne:b≠[]:=by rw [bne_iff_ne] at hbn;exact hbn
        rw [hbn,cond_true,apK_t (by omega)] at step
        exact fin 87 [] (out++[txP b]) rfl (fl_ne out hne).symm (by rw [List.length_append,List.length_singleton];omega) rfl step
      | false =>
        have he:b=[]:=by simpa using hbn
        rw [hbn,cond_false] at step
        exact fin 142 b out he (by rw [he,fl_nil]) (by omega) rfl step
    | false =>
      rw [ht,cond_false,w1,slK_t (by omega) (by omega),show p+1 - p=1 by omega,sl1_eq h,catK_t (by simp;omega)] at step
      rw [cond_false]
      have:=ih (s.length - (p+1)) (by omega) (p+1) out (b++[s.getD p 0]) rfl (by omega) (by omega) (by rw [List.length_append,List.length_singleton];omega)
      exact ⟨fun h=>(this.1 h).imp (.step (step _ _ rfl)) (.step (step _ _ rfl)),fun h=>(this.2 h).imp (.step (step _ _ rfl)) (.step (step _ _ rfl))⟩
  · rw [lt_f h] at step
    rw [bodyM_eq,blt_f h]
    exact ⟨fun h=>by simp at h,fun _=>.inr (fails _ 142 b out p (by simp) rfl (step _ _ rfl))⟩
def sP0 (s:Str) (p:Nat):St Pl:=mkS 154 [(0,.str s),(1,dI p),(4,.nilS),(5,dI 0),(6,.bool false),(7,.nilS),(8,.str [])] []
theorem weakP0_eq (s:Str) (p:Nat):nilsS X0.C [(.slot 7,142,pParts [])] (sP0 s p)=sPt 142 s [] [] p:=by kernel_rfl
theorem weakP0 (s:Str) (p:Nat):Weak X0 (sP0 s p) (sPt 142 s [] [] p):=weakP0_eq s p ▸ Weak.nils xok [(.slot 7,142,pParts [])] (sP0 s p)
def lOf (o:BodyO):List PartR:=bif o.ok then o.l else []
def qOf (o:BodyO):Nat:=bif o.ok then o.q else 0
noncomputable def LSP (S:St Pl):Option (Bool×LR Pl):=match seenS 154 [0,1,4,5,6,7,8] S with
  | some ([.str s,.int .i64 (.ofNat p),.nilS,.int .i64 (.ofNat 0),.bool false,.nilS,.str []],[])=>some (Nat.ble p s.length&&Nat.ble s.length 100000,
      .ite (bodyM s p [] []).ok (.ite (cB (RndP (sPt 142 s [] [] p) .ret (rOk 28 (bodyM s p [] []).l (bodyM s p [] []).q))) (.leaf .ret (rOk 28 (bodyM s p [] []).l (bodyM s p [] []).q)) (.leaf .ret (rOk 142 (bodyM s p [] []).l (bodyM s p [] []).q)))
        (.ite (cB (RndP (sPt 142 s [] [] p) .ret rFl)) (.leaf .ret rFl) (.leaf (.exit 0) rFl)))
  | _=>none
theorem LSP_ok:SOk X0 (loopAt 21 0) LSP:=by
  intro S c r h hc
  unfold LSP at h
  split at h
  · rename_i s p hs
    simp only [Option.some.injEq,Prod.mk.injEq] at h
    obtain ⟨rfl,rfl⟩:=h
    rw [Bool.and_eq_true,Nat.ble_eq,Nat.ble_eq] at hc
    refine Goes.pre (keepOf [0,1,4,5,6,7,8]) ?_
    rw [seenS_mask hs]
    refine Goes.weakPre (weakP0 s p) ?_
    have key:=rndP s hc.2 _ p [] [] rfl hc.1 (by simp) (by simp)
    cases ho:(bodyM s p [] []).ok with
    | true =>
      simp only [pickR,cond_true]
      cases hb:cB (RndP (sPt 142 s [] [] p) .ret (rOk 28 (bodyM s p [] []).l (bodyM s p [] []).q)) with
      | true=>exact (cB_t hb).goes
      | false=>exact ((key.1 ho).resolve_left (cB_f hb)).goes
    | false =>
      simp only [pickR,cond_false]
      cases hb:cB (RndP (sPt 142 s [] [] p) .ret rFl) with
      | true=>exact (cB_t hb).goes
      | false=>exact ((key.2 ho).resolve_left (cB_f hb)).goes
  · simp at h
theorem eP (s:Str) (p:Nat):evF (tAt tell0) noTL (atL 3 LSP (atL 30 LSPi noL)) 1 Tryz.f21 [.str s,dI p] =
    ck_ (Nat.ble p s.length&&Nat.ble s.length 100000) (bif (bodyM s p [] []).ok then (bif cB (RndP (sPt 142 s [] [] p) .ret (rOk 28 (bodyM s p [] []).l (bodyM s p [] []).q)) then some (.tup [.pl (pParts (bodyM s p [] []).l) .any,dI (bodyM s p [] []).q,.bool true]) else some (.tup [.pl (pParts (bodyM s p [] []).l) .any,dI (bodyM s p [] []).q,.bool true]))
      else (bif cB (RndP (sPt 142 s [] [] p) .ret rFl) then some (.tup [.nilS,dI 0,.bool false]) else some (.tup [.nilS,dI 0,.bool false]))):=by kernel_rfl
theorem parts_sound (s:Str) (p:Nat) (hp:p≤s.length) (hl:s.length≤100000):Snd 21 [.str s,dI p] (.tup [.pl (pParts (lOf (bodyM s p [] []))) .any,dI (qOf (bodyM s p [] [])),.bool (bodyM s p [] []).ok]):=by
  have hLs:∀i,i < (loopsAt 21).length→LoopOk X0 (atL 3 LSP (atL 30 LSPi noL)) (loopAt 21 i) :=
    loops_2 idsP.1 (atL_ok (fun _=>LSP_ok) fun h=>absurd idsP.2.1 h) (atL_ok (fun h=>absurd (idsP.2.2.1.symm.trans h) (by decide)) fun _=>atL_ok (fun _=>LSPi_ok) fun h=>absurd idsP.2.2.1 h)
  have e:=eP s p
  rw [ck_t (by rw [ble_t hp,ble_t hl];rfl)] at e
  have key:=fun d (h:_=some d)=>snd_fn (n:=1) (tAt_ok (tell0_ok _)) (noTL_ok _ _) (f:=21) (fn:=Tryz.f21) (by kernel_rfl) (loops_of (fn:=Tryz.f21) (by kernel_rfl) hLs) (e.trans h)
  unfold lOf qOf
  cases ho:(bodyM s p [] []).ok with
  | true =>
    rw [ho] at key
    exact key _ (by rw [cond_true];cases cB _<;>rfl)
  | false =>
    rw [ho] at key
    exact (key (.tup [.nilS,dI 0,.bool false]) (by rw [cond_false];cases cB _<;>rfl)).post (RDle.tup (.cons (RDle.of (.nil _ rfl)) (RDles.refl _)))
def pPartsD:List (D Pl)→Option (Bool×D Pl)
  | [.str s,.int .i64 a]=>some (decide (0≤a)&&(Nat.ble a.toNat s.length&&Nat.ble s.length 100000),.tup [.pl (pParts (lOf (bodyM s a.toNat [] []))) .any,dI (qOf (bodyM s a.toNat [] [])),.bool (bodyM s a.toNat [] []).ok])
  | _=>none
theorem pPartsD_ok:∀ds b d,pPartsD ds=some (b,d)→b=true→Snd 21 ds d:=by
  intro ds b d h hb
  unfold pPartsD at h
  split at h
  · simp only [Option.some.injEq,Prod.mk.injEq] at h
    obtain ⟨rfl,rfl⟩:=h
    rw [Bool.and_eq_true,Bool.and_eq_true,Nat.ble_eq,Nat.ble_eq] at hb
    obtain ⟨a,rfl⟩:=Int.eq_ofNat_of_zero_le (of_decide_eq_true hb.1)
    exact parts_sound _ _ hb.2.1 hb.2.2
  · simp at h
end Go.Proofs.YtlnkjdedeegajaaGreatDoor
