/-
  VALUES: their size, a copy of one reads as the value.
-/
import Derived.Test.YtlnkjdedeegajaaGreatDoorLib
import Derived.IntWalk
namespace Go.Proofs.YtlnkjdedeegajaaGreatDoor
open Go.Eng
set_option maxRecDepth 100000
namespace Ev
mutual
def vsz:Val→Nat
  | ⟨_,_,_,l,ks,_,_,_⟩=>1+ks.length+vszs l
def vszs:List Val→Nat
  | []=>0
  | v::r=>vsz v+vszs r
end
def c12 (a b:Val) (m:Bool):Bool :=
  bif (bif (bif (bif (bif (bif (a.kind != b.kind) then true else a.i != b.i) then true else !(a.s==b.s)) then true else !(a.tk==b.tk&&(a.tof==b.tof&&true))) then true else (bif m then !(a.sec==b.sec) else false)) then true else ((a.l.length:Int) != (b.l.length:Int))) then true else ((a.keys.length:Int) != (b.keys.length:Int))
mutual
def sameV:Val→Val→Bool→Bool
  | ⟨k,i,s,l,ks,tk,tof,sec⟩,b,m=>!(c12 ⟨k,i,s,l,ks,tk,tof,sec⟩ b m)&&(ks==b.keys&&sameVs l b.l m)
def sameVs:List Val→List Val→Bool→Bool
  | [],_,_=>true
  | x::r,l,m=>match l with
    | []=>false
    | y::s=>sameV x y m&&sameVs r s m
end
def etaV (v:Val):Val:=⟨v.kind,v.i,v.s,v.l,v.keys,v.tk,v.tof,v.sec⟩
theorem etaV_eq (v:Val):etaV v=v:=by cases v;rfl
theorem vszs_mem {l:List Val} {x:Val} (h:x∈l):vsz x≤vszs l:=by
  induction l with
  | nil=>simp at h
  | cons y r ih =>
    simp only [vszs]
    rcases List.mem_cons.1 h with rfl | h
    · omega
    · have:=ih h;omega
theorem getD_mem {α:Type} {l:List α} {i:Nat} {d:α} (h:i < l.length):l.getD i d∈l:=by
  rw [List.getD_eq_getElem?_getD,List.getElem?_eq_getElem h]
  exact List.getElem_mem h
def p1 (f:Val→Bool×D Pl):List (D Pl)→Option (Bool×D Pl)
  | [d]=>match asV d with
    | some a=>some (f a)
    | none=>none
  | _=>none
theorem p1_ok {g:FuncId} {f:Val→Bool×D Pl} (h:∀v,(f v).1=true→Snd g [.agg (cV v)] (f v).2):∀ds b d,p1 f ds=some (b,d)→b=true→Snd g ds d:=by
  intro ds b d hp hb
  unfold p1 at hp
  split at hp
  · split at hp
    · rename_i ha
      simp only [Option.some.injEq] at hp
      have h1:=h _ (by rw [hp];exact hb)
      rw [hp] at h1
      exact h1.pre (.cons (asV_rdle ha) .nil)
    · simp at hp
  · simp at hp
theorem clone_nil:ev tell0 noTL 3 80 [.pl (pStrs []) (.nil true)]=some .nilS:=by kernel_rfl
theorem clone_some (l:List Str):ev tell0 noTL 3 80 [.pl (pStrs l) (.nil false)]=bif (true&&Nat.ble (((pStrs []).l.length+l.length) * 16) big) then some (.pl (pStrs l) .any) else none:=by kernel_rfl
theorem clone_sound (l:List Str) (k:SK):Snd 80 [.pl (pStrs l) k] (.pl (pStrs l) .any):=by
  refine SoundAt.room (pre:=[]) (post:=[]) fun hroom=>SoundAt.nilOr (pre:=[]) (post:=[]) fun b hb=>?_
  cases b with
  | true =>
    have hl:l=[]:=List.length_eq_zero_iff.1 (hb rfl)
    subst hl
    exact (snd_of (tell0_ok _) (noTL_ok _ _) clone_nil).weaken (.nil _ rfl)
  | false =>
    have:Nat.ble (((pStrs []).l.length+l.length) * 16) big=true:=by
      rw [Nat.ble_eq]
      have hr:l.length * 16≤big:=hroom
      simpa using hr
    exact (snd_of (tell0_ok _) (noTL_ok _ _) ((clone_some l).trans (by rw [this];rfl)))
def pClone:List (D Pl)→Option (Bool×D Pl)
  | [d]=>match asL .strs d with
    | some l=>some (true,.pl (pStrs l) .any)
    | none=>none
  | _=>none
theorem pClone_ok:∀ds b d,pClone ds=some (b,d)→b=true→Snd 80 ds d:=by
  intro ds b d h hb
  unfold pClone at h
  split at h
  · split at h
    · rename_i l hl
      simp only [Option.some.injEq,Prod.mk.injEq] at h
      obtain ⟨_,rfl⟩:=h
      exact (clone_sound l .any).pre (.cons (asL_rdle hl) .nil)
    · simp at h
  · simp at h
def cZ:List (D Pl):=[.int .i64 (.ofNat 0),.int .i64 (.ofNat 0),.str [],.nilS,.nilS,.int .i64 (.ofNat 0),.int .i64 (.ofNat 0),.bool false]
def cB (v:Val) (l:D Pl):List (D Pl):=[.int .i64 v.kind,.int .i64 v.i,.str v.s,l,.pl ⟨.strs,v.keys⟩ .any,.int .i64 v.tk,.int .i64 v.tof,.bool v.sec]
def sl24 (v:Val) (i:Int):List (Nat×D Pl):=[(1,.ptr 1 0),(2,.ptr 2 0),(13,.pl (pVals v.l) .any),(14,dI v.l.length),(15,dI i)]
def q24 (v:Val) (i:Int):St Pl:=mkS 28 (sl24 v i) [(2,.box false cZ),(1,.box false (cB v .nilS))]
def q24s (v:Val) (acc:List Val) (i:Int):St Pl:=mkS 28 (sl24 v i) [(24,.arr false (pVals acc)),(2,.box false cZ),(1,.box false (cB v (.arr 24)))]
def tCp (n:Nat):Eng.Told Pl:=tell 46 (p1 fun v=>(Nat.blt (vsz v) n,.agg (cV v))) (tell 80 pClone tell0)
theorem b24_0 (v:Val) (n:Nat):evD (tCp n) noTL noL 1 (loopAt 46 0) [1,2,13,14,15] [5,23] (q24 v 0) =
    lt_ 0 v.l.length (ix_ 0 v.l.length (ck_ (Nat.blt (vsz (etaV (v.l.getD 0 default))) n) (some (.normal,q24s v [etaV (v.l.getD 0 default)] 1)))) (some (.exit 0,q24 v 0)):=by kernel_rfl
theorem b24_s (v:Val) (n:Nat) (acc:List Val) (i:Nat):evD (tCp n) noTL noL 1 (loopAt 46 0) [1,2,13,14,15] [5,23] (q24s v acc i) =
    lt_ i v.l.length (ix_ i v.l.length (ck_ (Nat.blt (vsz (etaV (v.l.getD i default))) n) (ck_ (Nat.ble ((acc.length+1) * 104) big) (some (.normal,q24s v (acc++[etaV (v.l.getD i default)]) (IntKind.i64.wrap ((i:Int)+1))))))) (some (.exit 0,q24s v acc i)):=by kernel_rfl
theorem ids24:(loopsAt 46).length=1∧firstId (loopAt 46 0)=5∧loopsOf (loopAt 46 0)=[]:=⟨by kernel_rfl,by kernel_rfl,by kernel_rfl⟩
def LS24 (n:Nat) (S:St Pl):Option (Bool×LR Pl):=match seenS 28 [1,2,13,14,15] S with
  | some ([.ptr 1 0,.ptr 2 0,.pl ⟨.vals,l⟩ .any,.int .i64 k,.int .i64 (.ofNat 0)],[(2,.box false [.int .i64 (.ofNat 0),.int .i64 (.ofNat 0),.str [],.nilS,.nilS,.int .i64 (.ofNat 0),.int .i64 (.ofNat 0),.bool false]),
      (1,.box false [.int .i64 kind,.int .i64 i,.str s,.nilS,.pl ⟨.strs,ks⟩ .any,.int .i64 tk,.int .i64 tof,.bool sec])]) =>
    some (k==(l.length:Int)&&(Nat.ble (l.length * 104) big&&Nat.blt (vszs l) n),.ite (Nat.beq l.length 0) (.leaf (.exit 0) (q24 ⟨kind,i,s,l,ks,tk,tof,sec⟩ 0)) (.leaf (.exit 0) (q24s ⟨kind,i,s,l,ks,tk,tof,sec⟩ l l.length)))
  | _=>none
theorem take_snoc (l:List Val) {i:Nat} (h:i < l.length):l.take i++[l.getD i default]=l.take (i+1):=by
  rw [List.take_add_one,List.getD_eq_getElem?_getD,List.getElem?_eq_getElem h]
  rfl
theorem LS24_ok {n:Nat} (hT:TOk (tCp n)):SOk X0 (loopAt 46 0) (LS24 n):=by
  intro S c r h hc
  unfold LS24 at h
  split at h
  · rename_i l k kind ii s ks tk tof sec hs
    simp only [Option.some.injEq,Prod.mk.injEq] at h
    obtain ⟨rfl,rfl⟩:=h
    simp only [Bool.and_eq_true,Nat.ble_eq,Nat.blt_eq,beq_iff_eq] at hc
    obtain ⟨rfl,hb,hsz⟩:=hc
    have hbig:big=140737488355328:=rfl
    refine Goes.pre (keepOf [1,2,13,14,15]) ?_
    rw [seenS_mask hs]
    generalize hv:(⟨kind,ii,s,l,ks,tk,tof,sec⟩:Val)=v
    have hvl:v.l=l:=by rw [←hv]
    have hstart:mkS 28 ([1,2,13,14,15].zip [.ptr 1 0,.ptr 2 0,.pl ⟨.vals,l⟩ .any,.int .i64 (l.length:Int),.int .i64 (.ofNat 0)]) [(2,.box false cZ),(1,.box false [.int .i64 kind,.int .i64 ii,.str s,.nilS,.pl ⟨.strs,ks⟩ .any,.int .i64 tk,.int .i64 tof,.bool sec])]=q24 v 0:=by
      subst hv;rfl
    show GoesTo _ (mkS 28 ([1,2,13,14,15].zip [.ptr 1 0,.ptr 2 0,.pl ⟨.vals,l⟩ .any,.int .i64 (l.length:Int),.int .i64 (.ofNat 0)]) [(2,.box false cZ),(1,.box false [.int .i64 kind,.int .i64 ii,.str s,.nilS,.pl ⟨.strs,ks⟩ .any,.int .i64 tk,.int .i64 tof,.bool sec])]) _ _
    rw [hstart]
    clear hstart hs hv
    subst hvl
    cases hl:Nat.beq v.l.length 0 with
    | true =>
      have h0:v.l.length=0:=Nat.eq_of_beq_eq_true hl
      refine loop_all (Sf:=fun i=>q24 v i) (n:=0) (by simp) (fun i hi=>by omega) ?_
      exact goes_ofD hT (noTL_ok _ _) (noLoops ids24.2.2) ((b24_0 v n).trans (by rw [lt_f (by omega)]))
    | false =>
      have h0:0 < v.l.length:=by
        rcases Nat.eq_zero_or_pos v.l.length with h | h
        · rw [h] at hl;simp at hl
        · exact h
      refine loop_all (Sf:=fun i=>match i with
        | 0=>q24 v 0
        | j+1=>q24s v (v.l.take (j+1)) ((j+1:Nat):Int)) (n:=v.l.length) (by simp) (fun i hi=>?_) ?_
      · have hm:=vszs_mem (getD_mem (d:=default) hi)
        cases i with
        | zero =>
          refine goes_ofD hT (noTL_ok _ _) (noLoops ids24.2.2) ((b24_0 v n).trans ?_)
          rw [lt_t hi,ix_t hi,etaV_eq,ck_t (blt_t (by omega))]
          have:=take_snoc v.l hi
          simp only [List.take_zero,List.nil_append] at this
          rw [this];rfl
        | succ j =>
          refine goes_ofD hT (noTL_ok _ _) (noLoops ids24.2.2) ((b24_s v n _ (j+1)).trans ?_)
          rw [lt_t hi,ix_t hi,etaV_eq,ck_t (blt_t (by omega)),ck_t (ble_t (by rw [List.length_take];omega)),take_snoc v.l hi,wrap_nat (show j+1≤big by omega)]
      · obtain ⟨m,hm⟩:∃m,v.l.length=m+1:=⟨v.l.length - 1,by omega⟩
        have e:(match v.l.length with
          | 0=>q24 v 0
          | j+1=>q24s v (v.l.take (j+1)) ((j+1:Nat):Int))=q24s v v.l v.l.length:=by
          rw [hm]
          show q24s v (v.l.take (m+1)) ((m+1:Nat):Int)=_
          rw [←hm,List.take_length]
        show GoesTo _ (match v.l.length with
          | 0=>q24 v 0
          | j+1=>q24s v (v.l.take (j+1)) ((j+1:Nat):Int)) _ _
        rw [e]
        exact goes_ofD hT (noTL_ok _ _) (noLoops ids24.2.2) ((b24_s v n _ v.l.length).trans (by rw [lt_f (by omega)]))
  · simp at h
theorem e24 (v:Val) (n:Nat):evF (tCp n) noTL (atL 5 (LS24 n) noL) 1 Tryz.f46 [.agg (cV v)] =
    ck_ (((v.l.length:Int)==(v.l.length:Int))&&(Nat.ble (v.l.length * 104) big&&Nat.blt (vszs v.l) n)) (bif Nat.beq v.l.length 0 then some (.agg (cB v .nilS)) else some (.agg (cV v))):=by kernel_rfl
theorem copy_n:∀n v,vsz v < n→Snd 46 [.agg (cV v)] (.agg (cV v)):=by
  intro n
  induction n with
  | zero=>intro v h;omega
  | succ n ih =>
    intro v hlt
    have hT:TOk (tCp n):=tell_ok (p1_ok fun v h=>ih v (by simp only [Nat.blt_eq] at h;exact h)) (tell_ok pClone_ok (tell0_ok _))
    have h1:vszs v.l < n:=by
      obtain ⟨k,i,s,l,ks,tk,tof,sec⟩:=v
      simp only [vsz] at hlt
      simp only
      omega
    refine SoundAt.rooms fun hroom=>?_
    have h2:Room _ (.agg (cV v)):=hroom _ (by simp)
    have hl:v.l.length * 104≤big:=h2 (.pl (pVals v.l) .any) (by simp [cV])
    have he:=e24 v n
    rw [ck_t (by rw [beq_self_eq_true,ble_t hl,blt_t h1];rfl)] at he
    have hL:=loops_of (f:=46) (L:=atL 5 (LS24 n) noL) (fn:=Tryz.f46) (by kernel_rfl) (loops_1 ids24.1 (atL_ok (fun _=>LS24_ok hT) fun h=>absurd ids24.2.1 h))
    cases h0:Nat.beq v.l.length 0 with
    | true =>
      rw [h0] at he
      have hnil:v.l=[]:=List.length_eq_zero_iff.1 (Nat.eq_of_beq_eq_true h0)
      refine (snd_fn (n:=1) hT (noTL_ok _ _) (fn:=Tryz.f46) (by kernel_rfl) hL he).post (RDle.agg ?_)
      unfold cB cV
      rw [hnil]
      exact .cons (RDle.refl _) (.cons (RDle.refl _) (.cons (RDle.refl _) (.cons (RDle.of (.nil _ rfl)) (RDles.refl _))))
    | false =>
      rw [h0] at he
      exact (snd_fn (n:=1) hT (noTL_ok _ _) (fn:=Tryz.f46) (by kernel_rfl) hL he)
theorem copy_sound (v:Val):Snd 46 [.agg (cV v)] (.agg (cV v)):=copy_n _ v (Nat.lt_succ_self _)
end Ev
end Go.Proofs.YtlnkjdedeegajaaGreatDoor
