/-
  THE MACHINE's LOOP: its contract.
-/
import Derived.Test.YtlnkjdedeegajaaGreatDoorEvO
namespace Go.Proofs.YtlnkjdedeegajaaGreatDoor
open Go.Eng
set_option maxRecDepth 100000
namespace Ev
def bx (t:Nat) (v:Int) (g:Int→PosR):Nat→Int→List Val→Int→PosR×List Val×Int
  | 0,_,acc,i=>(p00,acc,i)
  | n+1,f,acc,i=>if (t:Int)≤f then bx t v g n (f - t) (acc++[intV v]) (i+1) else (g f,acc++[v00],i)
structure LpH (j:Nat) (z:Bool) (B:ExprR) (L:List Val) (t:Nat) (v:Int) (g:Int→PosR):Prop where
  hj:j < 3
  hz:Bz z B=B
  hL:∀x∈L,x=intV 1
  hk:L.length≤100
  H:EvC z B (Nj j L++[⟨xj j,intV 1⟩]) t v g
def fin (j:Nat) (F:ExprR) (L:List Val) (t:Nat) (v:Int) (g:Int→PosR) (n:Nat) (f:Int) (acc:List Val) (i:Int):St Pl :=
  if ((n * t:Nat):Int)≤f then sLo (Nj j L) F L (okM (f - (n * t:Nat))) (acc++List.replicate n (intV v)) L.length
  else sLo (Nj j L) F L ⟨0,3,(bx t v g n f acc i).1,sFuel⟩ (bx t v g n f acc i).2.1 (bx t v g n f acc i).2.2
theorem rndLo {j:Nat} {z:Bool} {B:ExprR} {L:List Val} {t:Nat} {v:Int} {g:Int→PosR} (h:LpH j z B L t v g) (q p:PosR):∀(n:Nat) (f:Int) (acc:List Val) (i:Nat),i+n=L.length→0≤f→f≤20000→acc.length≤i →
    Rnd (loopAt 44 0) (sLo (Nj j L) (forE (xj j) q p B) L (okM f) acc i) (.exit 1) (fin j (forE (xj j) q p B) L t v g n f acc i)
  | 0,f,acc,i,hi,h0,h1,ha=>by
    have hb:=bLo (KB B (Nj j L++[⟨xj j,intV 1⟩])) (Vt t (intV v)) (Mt t g) L acc B q p f i z j h.hj
    rw [h.hz,lt_f (by omega)] at hb
    have e:fin j (forE (xj j) q p B) L t v g 0 f acc i=sLo (Nj j L) (forE (xj j) q p B) L (okM f) acc i:=by
      unfold fin
      rw [if_pos (by simpa using h0)]
      simp only [Nat.zero_mul,List.replicate_zero,List.append_nil]
      rw [show f - ((0:Nat):Int)=f by omega,show (L.length:Int)=(i:Int) by omega]
    rw [e]
    exact .stop (by simp) (goes_ofZ (pEv_ok h.H) (noTL_ok _ _) (noLoops idsLo.2.2) hb)
  | n+1,f,acc,i,hi,h0,h1,ha=>by
    have hbig:big=140737488355328:=rfl
    have hk:=h.hk
    have hlt:i < L.length:=by omega
    have hb:=bLo (KB B (Nj j L++[⟨xj j,intV 1⟩])) (Vt t (intV v)) (Mt t g) L acc B q p f i z j h.hj
    have hc:Go.Proofs.YtlnkjdedeegajaaGreatDoor.cB (KB B (Nj j L++[⟨xj j,intV 1⟩]) B (Nj j L++[⟨xj j,intV 1⟩]) f)=true:=@decide_eq_true _ (Classical.propDecidable _) ⟨rfl,rfl,h0,h1⟩
    rw [h.hz,lt_t hlt,ix_t hlt,etaE_eq,h.hL _ (getD_mem hlt),show trB (intV 1)=intV 1 from rfl,ck_t hc,ck_t (ble_t (by omega)),etaV_eq,wrap_nat (by omega)] at hb
    by_cases ht:(t:Int)≤f
    · have hM:Mt t g f=okM (f - t):=if_pos ht
      have hV:Vt t (intV v) f=intV v:=if_pos ht
      rw [hM,hV] at hb
      have e:fin j (forE (xj j) q p B) L t v g (n+1) f acc i=fin j (forE (xj j) q p B) L t v g n (f - t) (acc++[intV v]) ((i+1:Nat):Int):=by
        unfold fin
        have e1:((n+1) * t:Nat)=n * t+t:=Nat.succ_mul n t
        have e2:bx t v g (n+1) f acc i=bx t v g n (f - t) (acc++[intV v]) ((i+1:Nat):Int):=by
          simp only [bx]
          rw [if_pos ht]
          rfl
        rw [e2,e1]
        by_cases hn:((n * t:Nat):Int)≤f - t
        · rw [if_pos (by omega),if_pos hn,show f - ((n * t+t:Nat):Int)=f - t - ((n * t:Nat):Int) by omega,List.replicate_succ]
          simp
        · rw [if_neg (by omega),if_neg hn]
      rw [e]
      exact .step (goes_ofZ (pEv_ok h.H) (noTL_ok _ _) (noLoops idsLo.2.2) hb) (rndLo h q p n (f - t) (acc++[intV v]) (i+1) (by omega) (by omega) (by omega) (by simp;omega))
    · have hM:Mt t g f=⟨0,3,g f,sFuel⟩:=if_neg ht
      have hV:Vt t (intV v) f=v00:=if_neg ht
      rw [hM,hV] at hb
      have e:fin j (forE (xj j) q p B) L t v g (n+1) f acc i=sLo (Nj j L) (forE (xj j) q p B) L ⟨0,3,g f,sFuel⟩ (acc++[v00]) i:=by
        unfold fin
        have e1:((n+1) * t:Nat)=n * t+t:=Nat.succ_mul n t
        have e2:bx t v g (n+1) f acc i=(g f,acc++[v00],(i:Int)):=by
          simp only [bx]
          rw [if_neg ht]
        rw [e2,if_neg (by omega)]
      rw [e]
      exact .stop (by simp) (goes_ofZ (pEv_ok h.H) (noTL_ok _ _) (noLoops idsLo.2.2) hb)
def CLo (j:Nat) (L:List Val) (q p:PosR) (B:ExprR) (N:List BindR) (F:ExprR) (L':List Val) (f:Int):Prop:=(N=Nj j L∧F=forE (xj j) q p B)∧L'=L∧0≤f∧f≤20000
def okLo (t:Nat) (L:List Val) (f:Int):Bool:=decide (((L.length * t:Nat):Int)≤f)
def foLo (t:Nat) (L:List Val) (f:Int):Int:=f - ((L.length * t:Nat):Int)
def aoLo (v:Int) (L:List Val):List Val:=List.replicate L.length (intV v)
def bxLo (t:Nat) (v:Int) (g:Int→PosR) (L:List Val) (f:Int):PosR×List Val×Int:=bx t v g L.length f [] 0
theorem LSLo_gen {C:List BindR→ExprR→List Val→Int→Prop} {OK:List Val→Int→Bool} {FO:List Val→Int→Int} {AO:List Val→List Val} {BX:List Val→Int→PosR×List Val×Int}
    (key:∀N F L f,C N F L f→Goes X0 (.loop (loopAt 44 0)) (sLo N F L (okM f) [] 0) (pickR (outLo OK FO AO BX N F L f)).1 (pickR (outLo OK FO AO BX N F L f)).2) :
    SOk X0 (loopAt 44 0) (LSLo C OK FO AO BX):=by
  have kN:∀(S:St Pl) (c:Bool) (r:LR Pl),LSn C OK FO AO BX S=some (c,r)→c=true→Goes X0 (.loop (loopAt 44 0)) S (pickR r).1 (pickR r).2:=by
    intro S c r hS hc
    unfold LSn at hS
    split at hS
    · rename_i sl hs hseen
      split at hS
      · rename_i nm L' k c1 c2 c3 N c4 c5 h1 h2
        split at hS
        · rename_i L'' nm' f F h3 h4 h5
          cases hb:(rTo c1&&rZ c4)&&(isA6 nm&&isA6 nm') with
          | false=>rw [hb] at hS;simp at hS
          | true =>
            rw [hb,cond_true] at hS
            simp only [Option.some.injEq,Prod.mk.injEq] at hS
            obtain ⟨rfl,rfl⟩:=hS
            simp only [Bool.and_eq_true] at hb
            rw [Bool.and_eq_true,beq_iff_eq] at hc
            obtain ⟨rfl,hc⟩:=hc
            obtain ⟨⟨rfl,_⟩,hC⟩:(L''=L'∧True)∧C N F L' f:=@of_decide_eq_true _ (Classical.propDecidable _) hc
            refine Goes.pre (keepOf [0,3,4,5,6,7,8,9,10,60,61,62]) ?_
            rw [seenS_mask hseen,rSl_eq h1,rObN_eq h2,rVs_eq h3,rMs_eq h4,exE_eq h5,rTo_eq hb.1.1,rZ_eq hb.1.2,isA6_eq hb.2.1,isA6_eq hb.2.2]
            exact Goes.weakPre (weakN _ _ _ f) (key _ _ _ f hC)
        · simp at hS
      · simp at hS
    · simp at hS
  have kP:∀(S:St Pl) (c:Bool) (r:LR Pl),LSp C OK FO AO BX S=some (c,r)→c=true→Goes X0 (.loop (loopAt 44 0)) S (pickR r).1 (pickR r).2:=by
    intro S c r hS hc
    unfold LSp at hS
    split at hS
    · rename_i sl hs hseen
      split at hS
      · rename_i nm L' k c1 c2 c3 c4 c5 h1 h2
        split at hS
        · rename_i L'' nm' f F h3 h4 h5
          split at hS
          · rename_i N N' h6 h7
            cases hb:(rTo c1&&rZ c4) with
            | false=>rw [hb] at hS;simp at hS
            | true =>
              rw [hb,cond_true] at hS
              simp only [Option.some.injEq,Prod.mk.injEq] at hS
              obtain ⟨rfl,rfl⟩:=hS
              simp only [Bool.and_eq_true] at hb
              rw [Bool.and_eq_true,beq_iff_eq] at hc
              obtain ⟨rfl,hc⟩:=hc
              obtain ⟨⟨rfl,rfl⟩,hC⟩:(L''=L'∧N'=N)∧C N F L' f:=@of_decide_eq_true _ (Classical.propDecidable _) hc
              refine Goes.pre (keepOf [0,3,4,5,6,7,8,9,10,60,61,62]) ?_
              rw [seenS_mask hseen,rSl_eq h1,rObP_eq h2,rVs_eq h3,rMs_eq h4,exE_eq h5,rTo_eq hb.1,rZ_eq hb.2,isPB_eq h6,isPB_eq h7]
              exact Goes.weakPre (weakP _ _ _ f) (key _ _ _ f hC)
          · simp at hS
        · simp at hS
      · simp at hS
    · simp at hS
  intro S c r hS hc
  unfold LSLo at hS
  split at hS
  · rename_i r' h1
    simp only [Option.some.injEq] at hS
    subst hS
    exact kN S c r h1 hc
  · exact kP S c r hS hc
theorem LSLo_ok {j:Nat} {z:Bool} {B:ExprR} {L:List Val} {t:Nat} {v:Int} {g:Int→PosR} (h:LpH j z B L t v g) (q p:PosR) :
    SOk X0 (loopAt 44 0) (LSLo (CLo j L q p B) (okLo t) (foLo t) (aoLo v) (bxLo t v g)):=by
  have key:∀f:Int,0≤f→f≤20000→Goes X0 (.loop (loopAt 44 0)) (sLo (Nj j L) (forE (xj j) q p B) L (okM f) [] 0)
      (pickR (outLo (okLo t) (foLo t) (aoLo v) (bxLo t v g) (Nj j L) (forE (xj j) q p B) L f)).1 (pickR (outLo (okLo t) (foLo t) (aoLo v) (bxLo t v g) (Nj j L) (forE (xj j) q p B) L f)).2:=by
    intro f h0 h1
    have:=(rndLo h q p L.length f [] 0 (by omega) h0 h1 (by simp)).goes
    unfold fin at this
    unfold outLo okLo
    by_cases hf:((L.length * t:Nat):Int)≤f
    · rw [if_pos hf] at this
      rw [decide_eq_true hf]
      exact this.weak (weakX _ _ _ _ _ _)
    · rw [if_neg hf] at this
      rw [decide_eq_false hf]
      exact this.weak (weakX _ _ _ _ _ _)
  refine LSLo_gen fun N F L' f hC=>?_
  obtain ⟨⟨rfl,rfl⟩,rfl,h0,h1⟩:=hC
  exact key f h0 h1
end Ev
end Go.Proofs.YtlnkjdedeegajaaGreatDoor
