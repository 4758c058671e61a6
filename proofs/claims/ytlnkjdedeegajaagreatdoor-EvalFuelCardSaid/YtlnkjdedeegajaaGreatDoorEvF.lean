/-
  LISTS OF NUMBERS: Bare, the function 'sum'.
-/
import Derived.Test.YtlnkjdedeegajaaGreatDoorEvV2
import Derived.Test.YtlnkjdedeegajaaGreatDoorOwn
namespace Go.Proofs.YtlnkjdedeegajaaGreatDoor
open Go.Eng
set_option maxRecDepth 100000
namespace Ev
def cV0 (n:Int):List (D Pl):=[dI 2,dI n,.str [],.nilS,.nilS,dI 0,dI 0,.bool false]
theorem e24o (v:Val) (n:Nat):evO (tCp n) (atL 5 (LS24 n) noL) 1 Tryz.f46 [.agg (cV v)] =
    ck_ (((v.l.length:Int)==(v.l.length:Int))&&(Nat.ble (v.l.length * 104) big&&Nat.blt (vszs v.l) n)) (bif Nat.beq v.l.length 0 then some (.agg (cB v .nilS)) else some (.ow [3] (.agg (cV v)))):=by kernel_rfl
theorem copy_own (v:Val) (h0:Nat.beq v.l.length 0=false):Snd 46 [.agg (cV v)] (.ow [3] (.agg (cV v))):=by
  have hT:TOk (tCp (vszs v.l+1)):=tell_ok (p1_ok fun v h=>copy_sound v) (tell_ok pClone_ok (tell0_ok _))
  refine SoundAt.rooms fun hroom=>?_
  have h2:Room _ (.agg (cV v)):=hroom _ (by simp)
  have hl:v.l.length * 104≤big:=h2 (.pl (pVals v.l) .any) (by simp [cV])
  have he:=e24o v (vszs v.l+1)
  rw [ck_t (by rw [beq_self_eq_true,ble_t hl,blt_t (Nat.lt_succ_self _)];rfl),h0] at he
  exact snd_own (n:=1) hT (fn:=Tryz.f46) (by kernel_rfl) (loops_of (f:=46) (L:=atL 5 (LS24 (vszs v.l+1)) noL) (fn:=Tryz.f46) (by kernel_rfl) (loops_1 ids24.1 (atL_ok (fun _=>LS24_ok hT) fun h=>absurd ids24.2.1 h))) he
def tCo (R:Eng.Told Pl):Eng.Told Pl:=tell 46 (p1 fun v=>(!(Nat.beq v.l.length 0),.ow [3] (.agg (cV v)))) R
theorem tCo_ok {R:Eng.Told Pl} (h:TOk R):TOk (tCo R):=tell_ok (p1_ok fun v hv=>copy_own v (by simpa using hv)) h
theorem eBaI (n:Int):ev tLi noTL 2 97 [.agg (cV (intV n))]=some (.agg (cV (intV n))):=by kernel_rfl
theorem baI (n:Int):Snd 97 [.agg (cV (intV n))] (.agg (cV (intV n))):=snd_of tLi_ok (noTL_ok _ _) (eBaI n)
theorem eBa0:ev tLi noTL 2 97 [.agg (cV (listV []))]=some (.agg (cV (listV []))):=by kernel_rfl
def six_ {β:Type} (i n:Nat) (x:Option β):Option β:=bif (decide ((i:Int) < (n:Int))&&true) then x else none
theorem six_t {β:Type} {i n:Nat} (h:i < n) (x:Option β):six_ i n x=x:=by unfold six_;rw [decide_eq_true (by omega)];rfl
def tBa:Eng.Told Pl:=tCo (tell 97 (p1 fun v=>(isIV v,.agg (cV v))) tell0)
theorem tBa_ok:TOk tBa:=tCo_ok (tell_ok (p1_ok fun v hv=>by
  have e:=isIV_eq hv
  rw [e]
  exact baI v.i) (tell0_ok _))
def sBa (n:Nat) (l:List Val) (i:Int):St Pl:=mkS 24 [(1,.ptr 1 0),(2,.ptr 2 0),(9,.arr 6),(10,dI n),(11,dI i)] [(6,.arr false (pVals l)),(2,.box false cZ),(1,.box false [dI 4,dI 0,.str [],.arr 6,.pl (pStrs []) .any,dI 0,dI 0,.bool false])]
theorem bBa (n:Nat) (l:List Val) (i:Nat):evD tBa noTL noL 1 (loopAt 97 0) [1,2,9,10,11] [4] (sBa n l i) =
    lt_ i n (ix_ i l.length (ck_ (isIV (etaV (l.getD i default))) (ix_ i l.length (six_ i l.length (some (.normal,sBa n (l.set i (etaV (l.getD i default))) (IntKind.i64.wrap ((i:Int)+1)))))))) (some (.exit 0,sBa n l i)):=by kernel_rfl
theorem idsBa:(loopsAt 97).length=1∧firstId (loopAt 97 0)=4∧loopsOf (loopAt 97 0)=[]:=⟨by kernel_rfl,by kernel_rfl,by kernel_rfl⟩
def LSBa (S:St Pl):Option (Bool×LR Pl):=match seenS 24 [1,2,9,10,11] S with
  | some ([.ptr 1 0,.ptr 2 0,.arr 6,.int .i64 k,.int .i64 (.ofNat 0)],[(6,.arr false ⟨.vals,l⟩),(2,.box false [.int .i64 (.ofNat 0),.int .i64 (.ofNat 0),.str [],.nilS,.nilS,.int .i64 (.ofNat 0),.int .i64 (.ofNat 0),.bool false]),
      (1,.box false [.int .i64 (.ofNat 4),.int .i64 (.ofNat 0),.str [],.arr 6,.pl ⟨.strs,[]⟩ .any,.int .i64 (.ofNat 0),.int .i64 (.ofNat 0),.bool false])]) =>
    some (k==(l.length:Int)&&okL l,.leaf (.exit 0) (sBa l.length l l.length))
  | _=>none
theorem set_self (l:List Val) {i:Nat} (h:i < l.length):l.set i (l.getD i default)=l:=by
  apply List.ext_getElem?
  intro j
  rw [List.getElem?_set]
  by_cases hj:i=j
  · subst hj
    rw [if_pos rfl,if_pos h,List.getD_eq_getElem?_getD,List.getElem?_eq_getElem h]
    rfl
  · rw [if_neg hj]
theorem LSBa_ok:SOk X0 (loopAt 97 0) LSBa:=by
  intro S c r h hc
  unfold LSBa at h
  split at h
  · rename_i k l hs
    simp only [Option.some.injEq,Prod.mk.injEq] at h
    obtain ⟨rfl,rfl⟩:=h
    simp only [Bool.and_eq_true,beq_iff_eq] at hc
    obtain ⟨rfl,hb⟩:=hc
    have hbig:big=140737488355328:=rfl
    have hl:=okL_len hb
    refine Goes.pre (keepOf [1,2,9,10,11]) ?_
    rw [seenS_mask hs]
    refine loop_all (Sf:=fun i:Nat=>sBa l.length l i) (n:=l.length) (by simp) (fun i hi=>?_) ?_
    · refine goes_ofD tBa_ok (noTL_ok _ _) (noLoops idsBa.2.2) ((bBa l.length l i).trans ?_)
      rw [lt_t hi,ix_t hi,etaV_eq,ck_t (okL_get hb hi),ix_t hi,six_t hi,set_self l hi,wrap_nat (by omega)]
    · exact goes_ofD tBa_ok (noTL_ok _ _) (noLoops idsBa.2.2) ((bBa l.length l l.length).trans (lt_f (by omega) _ _))
  · simp at h
theorem eBaL (L:List Val):evF tBa noTL (atL 4 LSBa noL) 1 Tryz.f97 [.agg (cV (listV L))]=ck_ (!(Nat.beq L.length 0)) (ck_ (lB L) (some (.agg (cV (listV L))))):=by kernel_rfl
theorem baL (L:List Val) (h:okL L=true):Snd 97 [.agg (cV (listV L))] (.agg (cV (listV L))):=by
  cases h0:Nat.beq L.length 0 with
  | true =>
    have:L=[]:=List.length_eq_zero_iff.1 (Nat.eq_of_beq_eq_true h0)
    subst this
    exact snd_of tLi_ok (noTL_ok _ _) eBa0
  | false=>exact snd_fn (n:=1) tBa_ok (noTL_ok _ _) (f:=97) (fn:=Tryz.f97) (by kernel_rfl) (loops_of (f:=97) (fn:=Tryz.f97) (by kernel_rfl) (loops_1 idsBa.1 (atL_ok (fun _=>LSBa_ok) fun h=>absurd idsBa.2.1 h))) ((eBaL L).trans (by rw [h0,lB_t h];rfl))
def sg (x:Int):Int:=(IntKind.u64.wrap x).fdiv (2 ^ min (Int.toNat 63) IntKind.u64.bits)
theorem eAdd (n m:Int):ev tell0 noTL 8 105 [dI n,dI m]=bif ((sg n==sg m)==true) then (bif (sg (IntKind.i64.wrap (n+m)) != sg n) then some (.tup [dI 0,dI 6]) else some (.tup [dI (IntKind.i64.wrap (n+m)),dI 0])) else some (.tup [dI (IntKind.i64.wrap (n+m)),dI 0]):=by kernel_rfl
theorem sg0 {x:Int} (h0:0≤x) (h1:x≤4000000000000):sg x=0:=by
  have e:sg x=(x % 18446744073709551616).fdiv 9223372036854775808:=rfl
  rw [e,Int.fdiv_eq_ediv_of_nonneg _ (by omega)]
  omega
def sum2 (n m:Int):Prop:=0≤n∧0≤m∧n+m≤4000000000000
theorem add_sound {n m:Int} (h:sum2 n m):Snd 105 [dI n,dI m] (.tup [dI (n+m),dI 0]):=by
  obtain ⟨h0,h1,h2⟩:=h
  refine snd_of (tell0_ok _) (noTL_ok _ _) ((eAdd n m).trans ?_)
  rw [wrap_in (n+m) (by omega),sg0 h0 (by omega),sg0 h1 (by omega),sg0 (show 0≤n+m by omega) h2]
  rfl
noncomputable def pAd:List (D Pl)→Option (Bool×D Pl)
  | [.int .i64 n,.int .i64 m]=>some (Go.Proofs.YtlnkjdedeegajaaGreatDoor.cB (sum2 n m),.tup [dI (n+m),dI 0])
  | _=>none
theorem pAd_ok:∀ds b d,pAd ds=some (b,d)→b=true→Snd 105 ds d:=by
  intro ds b d h hb
  unfold pAd at h
  split at h
  · simp only [Option.some.injEq,Prod.mk.injEq] at h
    obtain ⟨rfl,rfl⟩:=h
    exact add_sound (@of_decide_eq_true _ (Classical.propDecidable _) hb)
  · simp at h
noncomputable def tSu:Eng.Told Pl:=tell 105 pAd tell0
theorem tSu_ok:TOk tSu:=tell_ok pAd_ok (tell0_ok _)
def sumI (l:List Val):Int:=(l.map (·.i)).sum
theorem sumI_take (l:List Val) {i:Nat} (h:i < l.length):sumI (l.take (i+1))=sumI (l.take i)+(l.getD i default).i:=by
  rw [←take_snoc l h]
  simp [sumI]
def sSu (L:List Val) (x i:Int):St Pl:=mkS 133 [(4,.ptr 4 0),(5,dI 0),(6,.bool false),(11,dI x),(84,.pl (pVals L) .any),(85,dI L.length),(86,dI i)] [(4,.box false cZ)]
theorem bSu (L:List Val) (x:Int) (i:Nat):evD tSu noTL noL 1 (loopAt 131 1) [4,5,6,11,84,85,86] [13] (sSu L x i) =
    lt_ i L.length (ix_ i L.length (ck_ (Go.Proofs.YtlnkjdedeegajaaGreatDoor.cB (sum2 x (L.getD i default).i)) (some (.normal,sSu L (x+(L.getD i default).i) (IntKind.i64.wrap ((i:Int)+1)))))) (some (.exit 3,sSu L x i)):=by kernel_rfl
theorem idsSu:(loopsAt 131).length=2∧firstId (loopAt 131 0)=15∧firstId (loopAt 131 1)=25∧loopsOf (loopAt 131 1)=[]:=⟨by kernel_rfl,by kernel_rfl,by kernel_rfl,by kernel_rfl⟩
def small (l:List Val):Prop:=l.length≤100∧∀v∈l,0≤v.i∧v.i≤1000000
theorem sumI_small {l:List Val} (h:∀v∈l,0≤v.i∧v.i≤1000000):0≤sumI l∧sumI l≤1000000 * l.length:=by
  induction l with
  | nil=>simp [sumI]
  | cons v r ih =>
    have h1:=h v (by simp)
    have h2:=ih fun x hx=>h x (by simp [hx])
    simp only [sumI,List.map_cons,List.sum_cons,List.length_cons] at h2 ⊢
    omega
noncomputable def LSSu (S:St Pl):Option (Bool×LR Pl):=match seenS 133 [4,5,6,11,84,85,86] S with
  | some ([.ptr 4 0,.int .i64 (.ofNat 0),.bool false,.int .i64 (.ofNat 0),.pl ⟨.vals,l⟩ .any,.int .i64 k,.int .i64 (.ofNat 0)],[(4,.box false [.int .i64 (.ofNat 0),.int .i64 (.ofNat 0),.str [],.nilS,.nilS,.int .i64 (.ofNat 0),.int .i64 (.ofNat 0),.bool false])]) =>
    some (k==(l.length:Int)&&Go.Proofs.YtlnkjdedeegajaaGreatDoor.cB (small l),.leaf (.exit 3) (sSu l (sumI l) l.length))
  | _=>none
theorem LSSu_ok:SOk X0 (loopAt 131 1) LSSu:=by
  intro S c r h hc
  unfold LSSu at h
  split at h
  · rename_i l k hs
    simp only [Option.some.injEq,Prod.mk.injEq] at h
    obtain ⟨rfl,rfl⟩:=h
    rw [Bool.and_eq_true,beq_iff_eq] at hc
    obtain ⟨rfl,hb⟩:=hc
    obtain ⟨hl,hv⟩:small l:=@of_decide_eq_true _ (Classical.propDecidable _) hb
    have hbig:big=140737488355328:=rfl
    refine Goes.pre (keepOf [4,5,6,11,84,85,86]) ?_
    rw [seenS_mask hs]
    have last:sSu l (sumI l) l.length=sSu l (sumI (l.take l.length)) l.length:=by rw [List.take_length]
    rw [last]
    refine loop_all (Sf:=fun i:Nat=>sSu l (sumI (l.take i)) i) (n:=l.length) (by simp) (fun i hi=>?_) ?_
    · refine goes_ofD tSu_ok (noTL_ok _ _) (noLoops idsSu.2.2.2) ((bSu l _ i).trans ?_)
      have h1:=sumI_small (l:=l.take i) fun v hx=>hv v (List.mem_of_mem_take hx)
      have h2:=hv _ (getD_mem (d:=default) hi)
      have h3:(l.take i).length≤100:=by rw [List.length_take];omega
      have hc:Go.Proofs.YtlnkjdedeegajaaGreatDoor.cB (sum2 (sumI (l.take i)) (l.getD i default).i)=true:=@decide_eq_true _ (Classical.propDecidable _) ⟨h1.1,h2.1,by omega⟩
      rw [lt_t hi,ix_t hi,ck_t hc,wrap_nat (by omega),←sumI_take l hi]
    · exact goes_ofD tSu_ok (noTL_ok _ _) (noLoops idsSu.2.2.2) ((bSu l _ l.length).trans (lt_f (by omega) _ _))
  · simp at h
def sSum:Str:=[115,117,109]
theorem eSu (L:List Val):evF tSu noTL (atL 25 LSSu noL) 2 Tryz.f131 [.str sSum,.pl (pVals [listV L]) .any] =
    ck_ (((L.length:Int)==(L.length:Int))&&Go.Proofs.YtlnkjdedeegajaaGreatDoor.cB (small L)) (some (.tup [.agg (cV0 (sumI L)),dI 0,.bool true])):=by kernel_rfl
end Ev
end Go.Proofs.YtlnkjdedeegajaaGreatDoor
