/-
  TREES OF EXPRESSIONS, plainly: how much one has; whether two are one, places aside; how deep one is.
-/
import Derived.Test.YtobleaffkomcmaaGreatDoorLib
import Derived.IntWalk
namespace Go.Proofs.YtobleaffkomcmaaGreatDoor
open Go.Eng
namespace DSE
mutual
def vsz:Val→Nat
  | ⟨_,_,_,l,ks,_,_,_⟩=>1+ks.length+vszs l
def vszs:List Val→Nat
  | []=>0
  | v::r=>vsz v+vszs r
end
def c12 (a b:Val) (m:Bool):Bool :=
  bif (bif (bif (bif (bif (bif (a.kind != b.kind) then true else a.i != b.i) then true else !(a.s==b.s)) then true else !(a.tk==b.tk&&(a.tof==b.tof&&true))) then true else (bif m then !(a.sec==b.sec) else false)) then true else ((a.l.length:Int) != (b.l.length:Int))) then true else ((a.keys.length:Int) != (b.keys.length:Int))
mutual
def sameV:Val→Val→Bool→Bool
  | ⟨k,i,s,l,ks,tk,tof,sec⟩,b,m=>!(c12 ⟨k,i,s,l,ks,tk,tof,sec⟩ b m)&&(ks==b.keys&&sameVs l b.l m)
def sameVs:List Val→List Val→Bool→Bool
  | [],_,_=>true
  | x::r,l,m=>match l with
    | []=>false
    | y::s=>sameV x y m&&sameVs r s m
end
def keysEq (a b:Val):Bool:=(List.range a.keys.length).all fun i=>a.keys.getD i []==b.keys.getD i []
def elemsEq (a b:Val) (m:Bool):Bool:=(List.range a.l.length).all fun i=>sameV (a.l.getD i default) (b.l.getD i default) m
theorem all_range_succ (n:Nat) (p:Nat→Bool):(List.range (n+1)).all p=(p 0&&(List.range n).all fun i=>p (i+1)):=by
  rw [List.range_succ_eq_map,List.all_cons,List.all_map];rfl
theorem all_beq {α:Type} [BEq α] [LawfulBEq α] (d:α):∀(l l':List α),l.length=l'.length→((List.range l.length).all fun i=>l.getD i d==l'.getD i d)=(l==l')
  | [],[],_=>rfl
  | [],_::_,h=>by simp at h
  | _::_,[],h=>by simp at h
  | x::r,y::s,h=>by
    rw [List.length_cons,all_range_succ,List.cons_beq_cons,←all_beq d r s (by simpa using h)]
    rfl
theorem all_same (m:Bool):∀(l l':List Val),l.length=l'.length→((List.range l.length).all fun i=>sameV (l.getD i default) (l'.getD i default) m)=sameVs l l' m
  | [],l',_=>by simp [sameVs]
  | _::_,[],h=>by simp at h
  | x::r,y::s,h=>by
    rw [List.length_cons,all_range_succ,sameVs,←all_same m r s (by simpa using h)]
    rfl
theorem c12_len {a b:Val} {m:Bool} (h:c12 a b m=false):a.l.length=b.l.length∧a.keys.length=b.keys.length:=by
  have key:∀X A B:Bool,(bif (bif X then true else A) then true else B)=false→A=false∧B=false:=by decide
  obtain ⟨h1,h2⟩:=key _ _ _ h
  simp only [bne_eq_false_iff_eq] at h1 h2
  omega
theorem sameV_eq (a b:Val) (m:Bool):sameV a b m=(!(c12 a b m)&&(keysEq a b&&elemsEq a b m)):=by
  cases hc:c12 a b m with
  | true =>
    obtain ⟨k,i,s,l,ks,tk,tof,sec⟩:=a
    simp only [sameV,hc];rfl
  | false =>
    obtain ⟨h1,h2⟩:=c12_len hc
    unfold keysEq elemsEq
    rw [all_beq [] _ _ h2,all_same m _ _ h1]
    obtain ⟨k,i,s,l,ks,tk,tof,sec⟩:=a
    simp only [sameV,hc]
def exV:List (D Pl)→Option Val
  | [.int .i64 k,.int .i64 i,.str s,.pl ⟨.vals,l⟩ .any,.pl ⟨.strs,ks⟩ .any,.int .i64 tk,.int .i64 tof,.bool sec]=>some ⟨k,i,s,l,ks,tk,tof,sec⟩
  | _=>none
theorem exV_eq {cs:List (D Pl)} {v:Val} (h:exV cs=some v):cs=cV v:=by
  unfold exV at h
  split at h
  · simp only [Option.some.injEq] at h;subst h;rfl
  · simp at h
def etaV (v:Val):Val:=⟨v.kind,v.i,v.s,v.l,v.keys,v.tk,v.tof,v.sec⟩
theorem etaV_eq (v:Val):etaV v=v:=by cases v;rfl
theorem vszs_mem {l:List Val} {x:Val} (h:x∈l):vsz x≤vszs l:=by
  induction l with
  | nil=>simp at h
  | cons y r ih =>
    simp only [vszs]
    rcases List.mem_cons.1 h with rfl | h
    · omega
    · have:=ih h;omega
theorem vsz_elem {v x:Val} (h:x∈v.l):vsz x < vsz v:=by
  obtain ⟨k,i,s,l,ks,tk,tof,sec⟩:=v
  have:=vszs_mem h
  simp only [vsz]
  simp only at this
  omega
theorem getD_mem {α:Type} {l:List α} {i:Nat} {d:α} (h:i < l.length):l.getD i d∈l:=by
  rw [List.getD_eq_getElem?_getD,List.getElem?_eq_getElem h]
  exact List.getElem_mem h
end DSE
end Go.Proofs.YtobleaffkomcmaaGreatDoor
namespace Go.Proofs.YtobleaffkomcmaaGreatDoor
open Go.Eng
namespace DSE
set_option maxRecDepth 100000
def hs12 (a b:Val):Obs Pl:=[(4,.box false (cV b)),(3,.box false (cV a))]
def s12 (a b:Val) (m:Bool) (t:Nat) (i:Int):St Pl:=mkS 101 [(2,.bool m),(3,.ptr 3 0),(4,.ptr 4 0),(6,.bool false),(t,dI i)] (hs12 a b)
def r12 (a b:Val) (m:Bool):St Pl:=mkS 101 [(2,.bool m),(3,.ptr 3 0),(4,.ptr 4 0),(6,.bool false)] (hs12 a b)
def pSame (n:Nat):List (D Pl)→Option (Bool×D Pl)
  | [d,e,.bool m]=>match asV d,asV e with
    | some a,some b=>some (Nat.blt (vsz a) n,.bool (sameV a b m))
    | _,_=>none
  | _=>none
def L12 (n:Nat):LK Pl:=fun rid S=>bif Nat.beq rid 4 then (match getT S.tm 2,getT S.tm 3,getT S.tm 4,getT S.tm 6,getT S.tm 7,S.hs with
  | .bool m,.ptr 3 0,.ptr 4 0,.bool false,.int .i64 (.ofNat 0),[(4,.box false cb),(3,.box false ca)]=>(match exV ca,exV cb with
    | some a,some b=>some (Nat.beq S.tm.length 101&&(Nat.beq a.keys.length b.keys.length&&Nat.ble a.keys.length big),.ite (keysEq a b) (.leaf (.exit 0) (r12 a b m)) (.leaf .ret (r12 a b m)))
    | _,_=>none)
  | _,_,_,_,_,_=>none) else bif Nat.beq rid 9 then (match getT S.tm 2,getT S.tm 3,getT S.tm 4,getT S.tm 6,getT S.tm 8,S.hs with
  | .bool m,.ptr 3 0,.ptr 4 0,.bool false,.int .i64 (.ofNat 0),[(4,.box false cb),(3,.box false ca)]=>(match exV ca,exV cb with
    | some a,some b=>some (Nat.beq S.tm.length 101&&(Nat.beq a.l.length b.l.length&&(Nat.ble a.l.length big&&Nat.ble (vsz a) n)),.ite (elemsEq a b m) (.leaf (.exit 2) (r12 a b m)) (.leaf .ret (r12 a b m)))
    | _,_=>none)
  | _,_,_,_,_,_=>none) else none
theorem b12_1 (a b:Val) (m:Bool) (i:Nat):evC tell0 noTL noL 1 (loopAt 48 0) [2,3,4,6,7] (s12 a b m 7 i) =
    bif decide ((i:Int) < (a.keys.length:Int)) then (bif (true&&decide ((i:Int) < (a.keys.length:Int))||false) then (bif (true&&decide ((i:Int) < (b.keys.length:Int))||false) then
      (bif !(a.keys.getD i []==b.keys.getD i []) then some (.ret,s12 a b m 7 i) else some (.normal,s12 a b m 7 (IntKind.i64.wrap ((i:Int)+1)))) else none) else none) else some (.exit 0,s12 a b m 7 i):=by kernel_rfl
theorem b12_2 (a b:Val) (m:Bool) (n i:Nat):evC (tell 48 (pSame n) tell0) noTL noL 1 (loopAt 48 1) [2,3,4,6,8] (s12 a b m 8 i) =
    bif decide ((i:Int) < (a.l.length:Int)) then (bif (true&&decide ((i:Int) < (a.l.length:Int))||false) then (bif (true&&decide ((i:Int) < (b.l.length:Int))||false) then
      (bif Nat.blt (vsz (etaV (a.l.getD i default))) n then (bif !(sameV (etaV (a.l.getD i default)) (etaV (b.l.getD i default)) m) then some (.ret,s12 a b m 8 i) else some (.normal,s12 a b m 8 (IntKind.i64.wrap ((i:Int)+1)))) else none) else none) else none) else some (.exit 2,s12 a b m 8 i):=by kernel_rfl
theorem e12 (a b:Val) (m:Bool) (n:Nat):evF (tell 48 (pSame n) tell0) noTL (L12 n) 0 Tryz.f48 [.agg (cV a),.agg (cV b),.bool m] =
    bif c12 a b m then some (.bool false) else (bif (true&&(Nat.beq a.keys.length b.keys.length&&Nat.ble a.keys.length big)) then (bif keysEq (etaV a) (etaV b) then
      (bif (true&&(Nat.beq a.l.length b.l.length&&(Nat.ble a.l.length big&&Nat.ble (vsz (etaV a)) n))) then (bif elemsEq (etaV a) (etaV b) m then some (.bool true) else some (.bool false)) else none) else some (.bool false)) else none):=by kernel_rfl
theorem ids12:(loopsAt 48).length=2∧firstId (loopAt 48 0)=4∧firstId (loopAt 48 1)=9∧loopsOf (loopAt 48 0)=[]∧loopsOf (loopAt 48 1)=[]:=⟨by kernel_rfl,by kernel_rfl,by kernel_rfl,by kernel_rfl,by kernel_rfl⟩
theorem loop12_1 (a b:Val) (m:Bool) (hl:a.keys.length=b.keys.length) (hb:a.keys.length≤big) :
    GoesTo (.loop (loopAt 48 0)) (s12 a b m 7 0) (pickR (.ite (keysEq a b) (.leaf (.exit 0) (r12 a b m)) (.leaf .ret (r12 a b m)))).1 (pickR (.ite (keysEq a b) (.leaf (.exit 0) (r12 a b m)) (.leaf .ret (r12 a b m)))).2:=by
  have hno:=noLoops (L:=noL) ids12.2.2.2.1
  have hr:∀i:Int,maskS (keepOf [2,3,4,6]) (s12 a b m 7 i)=r12 a b m:=fun i=>by kernel_rfl
  have hstep:∀i:Nat,i < a.keys.length→evC tell0 noTL noL 1 (loopAt 48 0) [2,3,4,6,7] (s12 a b m 7 i)=bif !(a.keys.getD i []==b.keys.getD i []) then some (.ret,s12 a b m 7 i) else some (.normal,s12 a b m 7 ((i+1:Nat):Int)):=by
    intro i hi
    rw [b12_1,wrap_nat (show i≤big by omega),decide_eq_true (show (i:Int) < (a.keys.length:Int) by omega),decide_eq_true (show (i:Int) < (b.keys.length:Int) by omega)]
    rfl
  refine loop_search (Sf:=fun i=>s12 a b m 7 i) (n:=a.keys.length) (p:=fun i=>a.keys.getD i []==b.keys.getD i []) (by simp) (by simp) (fun i hi hp=>?_) (fun i hi hp=>?_) ?_
  · refine goes_of (tell0_ok _) (noTL_ok _ _) hno ((hstep i hi).trans ?_)
    have hp:(a.keys.getD i []==b.keys.getD i [])=true:=hp
    rw [hp];rfl
  · have hp:(a.keys.getD i []==b.keys.getD i [])=false:=hp
    have:=(goes_of (tell0_ok _) (noTL_ok _ _) hno ((hstep i hi).trans (show _=some (.ret,s12 a b m 7 i) by rw [hp];rfl))).post (keepOf [2,3,4,6])
    rwa [hr] at this
  · have:=(goes_of (tell0_ok _) (noTL_ok _ _) hno ((b12_1 a b m a.keys.length).trans (show _=some (.exit 0,s12 a b m 7 a.keys.length) by rw [decide_eq_false (by omega)];rfl))).post (keepOf [2,3,4,6])
    rwa [hr] at this
theorem pSame_ok {n:Nat} (ih:∀a b m,vsz a < n→Snd 48 [.agg (cV a),.agg (cV b),.bool m] (.bool (sameV a b m))):TOk (tell 48 (pSame n) tell0):=by
  refine tell_ok (fun ds b d h hb=>?_) (tell0_ok _)
  unfold pSame at h
  split at h
  · split at h
    · rename_i h1 h2
      simp only [Option.some.injEq,Prod.mk.injEq] at h
      obtain ⟨rfl,rfl⟩:=h
      exact (ih _ _ _ (by have h:=hb;simp only [Nat.blt_eq] at h;omega)).pre (.cons (asV_rdle h1) (.cons (asV_rdle h2) (.cons (RDle.refl _) .nil)))
    · simp at h
  · simp at h
theorem loop12_2 (a b:Val) (m:Bool) (n:Nat) (hT:TOk (tell 48 (pSame n) tell0)) (hl:a.l.length=b.l.length) (hb:a.l.length≤big) (hn:vsz a≤n) :
    GoesTo (.loop (loopAt 48 1)) (s12 a b m 8 0) (pickR (.ite (elemsEq a b m) (.leaf (.exit 2) (r12 a b m)) (.leaf .ret (r12 a b m)))).1 (pickR (.ite (elemsEq a b m) (.leaf (.exit 2) (r12 a b m)) (.leaf .ret (r12 a b m)))).2:=by
  have hno:=noLoops (L:=noL) ids12.2.2.2.2
  have hr:∀i:Int,maskS (keepOf [2,3,4,6]) (s12 a b m 8 i)=r12 a b m:=fun i=>by kernel_rfl
  have hstep:∀i:Nat,i < a.l.length→evC (tell 48 (pSame n) tell0) noTL noL 1 (loopAt 48 1) [2,3,4,6,8] (s12 a b m 8 i)=bif !(sameV (a.l.getD i default) (b.l.getD i default) m) then some (.ret,s12 a b m 8 i) else some (.normal,s12 a b m 8 ((i+1:Nat):Int)):=by
    intro i hi
    have hsz:=vsz_elem (v:=a) (getD_mem (d:=default) hi)
    have hlt:Nat.blt (vsz (a.l.getD i default)) n=true:=by rw [Nat.blt_eq];omega
    rw [b12_2,wrap_nat (show i≤big by omega),decide_eq_true (show (i:Int) < (a.l.length:Int) by omega),decide_eq_true (show (i:Int) < (b.l.length:Int) by omega),etaV_eq,etaV_eq,hlt]
    rfl
  refine loop_search (Sf:=fun i=>s12 a b m 8 i) (n:=a.l.length) (p:=fun i=>sameV (a.l.getD i default) (b.l.getD i default) m) (by simp) (by simp) (fun i hi hp=>?_) (fun i hi hp=>?_) ?_
  · refine goes_of hT (noTL_ok _ _) hno ((hstep i hi).trans ?_)
    have hp:sameV (a.l.getD i default) (b.l.getD i default) m=true:=hp
    rw [hp];rfl
  · have hp:sameV (a.l.getD i default) (b.l.getD i default) m=false:=hp
    have:=(goes_of hT (noTL_ok _ _) hno ((hstep i hi).trans (show _=some (.ret,s12 a b m 8 i) by rw [hp];rfl))).post (keepOf [2,3,4,6])
    rwa [hr] at this
  · have:=(goes_of hT (noTL_ok _ _) hno ((b12_2 a b m n a.l.length).trans (show _=some (.exit 2,s12 a b m 8 a.l.length) by rw [decide_eq_false (by omega)];rfl))).post (keepOf [2,3,4,6])
    rwa [hr] at this
theorem L12_ok {n:Nat} (hT:TOk (tell 48 (pSame n) tell0)):∀i,i < (loopsAt 48).length→LoopOk X0 (L12 n) (loopAt 48 i):=by
  intro i hi S b r h hb
  rw [ids12.1] at hi
  match i,hi with
  | 0,_ =>
    rw [ids12.2.1] at h
    have h:(L12 n) 4 S=some (b,r):=h
    simp only [L12,show Nat.beq 4 4=true from rfl,cond_true] at h
    split at h
    · split at h
      · rename_i a' b' hca hcb
        simp only [Option.some.injEq,Prod.mk.injEq] at h
        obtain ⟨rfl,rfl⟩:=h
        simp only [Bool.and_eq_true,Nat.beq_eq_true_eq,Nat.ble_eq] at hb
        obtain ⟨hlen,hl,hbig⟩:=hb
        obtain rfl:=exV_eq hca
        obtain rfl:=exV_eq hcb
        refine Goes.pre (keepOf [2,3,4,6,7]) ?_
        have:=mask_mkS (S:=S) (n:=101) (hs:=[(4,.box false (cV b')),(3,.box false (cV a'))]) (l:=[(2,.bool _),(3,.ptr 3 0),(4,.ptr 4 0),(6,.bool false),(7,dI 0)]) (Nat.eq_of_beq_eq_true hlen) (by assumption) (by
          intro x hx
          simp only [List.mem_cons,List.not_mem_nil,or_false] at hx
          rcases hx with rfl | rfl | rfl | rfl | rfl<;>assumption)
        have this':maskS (keepOf [2,3,4,6,7]) S=s12 a' b' _ 7 0:=this
        rw [this']
        exact loop12_1 a' b' _ (Nat.eq_of_beq_eq_true hl) hbig
      · simp at h
    · simp at h
  | 1,_ =>
    rw [ids12.2.2.1] at h
    have h:(L12 n) 9 S=some (b,r):=h
    simp only [L12,show Nat.beq 9 4=false from rfl,show Nat.beq 9 9=true from rfl,cond_true,cond_false] at h
    split at h
    · split at h
      · rename_i a' b' hca hcb
        simp only [Option.some.injEq,Prod.mk.injEq] at h
        obtain ⟨rfl,rfl⟩:=h
        simp only [Bool.and_eq_true,Nat.beq_eq_true_eq,Nat.ble_eq] at hb
        obtain ⟨hlen,hl,hbig,hsz⟩:=hb
        obtain rfl:=exV_eq hca
        obtain rfl:=exV_eq hcb
        refine Goes.pre (keepOf [2,3,4,6,8]) ?_
        have:=mask_mkS (S:=S) (n:=101) (hs:=[(4,.box false (cV b')),(3,.box false (cV a'))]) (l:=[(2,.bool _),(3,.ptr 3 0),(4,.ptr 4 0),(6,.bool false),(8,dI 0)]) (Nat.eq_of_beq_eq_true hlen) (by assumption) (by
          intro x hx
          simp only [List.mem_cons,List.not_mem_nil,or_false] at hx
          rcases hx with rfl | rfl | rfl | rfl | rfl<;>assumption)
        have this':maskS (keepOf [2,3,4,6,8]) S=s12 a' b' _ 8 0:=this
        rw [this']
        exact loop12_2 a' b' _ n hT (Nat.eq_of_beq_eq_true hl) hbig hsz
      · simp at h
    · simp at h
theorem same_n:∀n a b m,vsz a < n→Snd 48 [.agg (cV a),.agg (cV b),.bool m] (.bool (sameV a b m)):=by
  intro n
  induction n with
  | zero=>intro a b m h;omega
  | succ n ih =>
    intro a b m hlt
    have hT:=pSame_ok ih
    refine SoundAt.rooms fun hroom=>snd_fn (L:=L12 n) (n:=0) hT (noTL_ok _ _) (fn:=Tryz.f48) (by kernel_rfl) (loops_of (fn:=Tryz.f48) (by kernel_rfl) (L12_ok hT)) ((e12 a b m n).trans ?_)
    have h1:Room _ (.agg (cV a)):=hroom _ (by simp)
    have hk:a.keys.length * 16≤big:=h1 (.pl (pStrs a.keys) .any) (by simp [cV])
    have hl:a.l.length * 104≤big:=h1 (.pl (pVals a.l) .any) (by simp [cV])
    rw [sameV_eq,etaV_eq,etaV_eq]
    cases hc:c12 a b m with
    | true=>rfl
    | false =>
      obtain ⟨g1,g2⟩:=c12_len hc
      have e1:Nat.beq a.keys.length b.keys.length=true:=by rw [g2];exact Nat.beq_refl _
      have e2:Nat.beq a.l.length b.l.length=true:=by rw [g1];exact Nat.beq_refl _
      have e3:Nat.ble a.keys.length big=true:=by rw [Nat.ble_eq];omega
      have e4:Nat.ble a.l.length big=true:=by rw [Nat.ble_eq];omega
      have e5:Nat.ble (vsz a) n=true:=by rw [Nat.ble_eq];omega
      rw [e1,e2,e3,e4,e5]
      cases keysEq a b<;>cases elemsEq a b m<;>rfl
theorem same_sound (a b:Val) (m:Bool):Snd 48 [.agg (cV a),.agg (cV b),.bool m] (.bool (sameV a b m)):=same_n _ a b m (Nat.lt_succ_self _)
def pSameA:List (D Pl)→Option (Bool×D Pl)
  | [d,e,.bool m]=>match asV d,asV e with
    | some a,some b=>some (true,.bool (sameV a b m))
    | _,_=>none
  | _=>none
def tSame (R:Eng.Told Pl):Eng.Told Pl:=tell 48 pSameA R
theorem tSame_ok {R:Eng.Told Pl} (hR:TOk R):TOk (tSame R):=by
  refine tell_ok (fun ds b d h hb=>?_) hR
  unfold pSameA at h
  split at h
  · split at h
    · rename_i h1 h2
      simp only [Option.some.injEq,Prod.mk.injEq] at h
      obtain ⟨_,rfl⟩:=h
      exact (same_sound _ _ _).pre (.cons (asV_rdle h1) (.cons (asV_rdle h2) (.cons (RDle.refl _) .nil)))
    · simp at h
  · simp at h
end DSE
end Go.Proofs.YtobleaffkomcmaaGreatDoor
namespace Go.Proofs.YtobleaffkomcmaaGreatDoor
open Go.Eng
namespace DSE
set_option maxRecDepth 100000
def s49 (a b:List Str) (i:Int):St Pl:=mkS 26 [(0,.pl (pStrs a) .any),(1,.pl (pStrs b) .any),(4,.bool false),(12,dI a.length),(13,dI i)] []
def r49 (a b:List Str):St Pl:=mkS 26 [(0,.pl (pStrs a) .any),(1,.pl (pStrs b) .any),(4,.bool false)] []
theorem b49 (a b:List Str) (i:Nat):evC tell0 noTL noL 1 (loopAt 45 0) [0,1,4,12,13] (s49 a b i) =
    lt_ i a.length (ix_ i a.length (ix_ i b.length (bif !(a.getD i []==b.getD i []) then some (.ret,s49 a b i) else some (.normal,s49 a b (IntKind.i64.wrap ((i:Int)+1)))))) (some (.exit 0,s49 a b i)):=by kernel_rfl
theorem ids49:(loopsAt 45).length=1∧firstId (loopAt 45 0)=4∧loopsOf (loopAt 45 0)=[]:=⟨by kernel_rfl,by kernel_rfl,by kernel_rfl⟩
def LS49 (S:St Pl):Option (Bool×LR Pl):=match seenS 26 [0,1,4,12,13] S with
  | some ([.pl ⟨.strs,a⟩ .any,.pl ⟨.strs,b⟩ .any,.bool false,.int .i64 n,.int .i64 (.ofNat 0)],[]) =>
    some (n==(a.length:Int)&&(Nat.beq a.length b.length&&Nat.ble a.length big),.ite ((List.range a.length).all fun i=>a.getD i []==b.getD i []) (.leaf (.exit 0) (r49 a b)) (.leaf .ret (r49 a b)))
  | _=>none
theorem LS49_ok:SOk X0 (loopAt 45 0) LS49:=by
  intro S c r h hc
  unfold LS49 at h
  split at h
  · rename_i a b n hs
    simp only [Option.some.injEq,Prod.mk.injEq] at h
    obtain ⟨rfl,rfl⟩:=h
    simp only [Bool.and_eq_true,Nat.ble_eq,beq_iff_eq] at hc
    obtain ⟨rfl,hl,hb⟩:=hc
    have hl:=Nat.eq_of_beq_eq_true hl
    refine Goes.pre (keepOf [0,1,4,12,13]) ?_
    rw [seenS_mask hs]
    have hstep:∀i:Nat,i < a.length→evC tell0 noTL noL 1 (loopAt 45 0) [0,1,4,12,13] (s49 a b i)=bif !(a.getD i []==b.getD i []) then some (.ret,s49 a b i) else some (.normal,s49 a b ((i+1:Nat):Int)):=by
      intro i hi
      rw [b49,lt_t hi,ix_t hi,ix_t (by omega),wrap_nat (show i≤big by omega)]
    refine loop_search (Sf:=fun i=>s49 a b i) (n:=a.length) (p:=fun i=>a.getD i []==b.getD i []) (by simp) (by simp) (fun i hi hp=>?_) (fun i hi hp=>?_) ?_
    · have hp:(a.getD i []==b.getD i [])=true:=hp
      exact goes_of (tell0_ok _) (noTL_ok _ _) (noLoops ids49.2.2) ((hstep i hi).trans (by rw [hp];rfl))
    · have hp:(a.getD i []==b.getD i [])=false:=hp
      exact (goes_of (tell0_ok _) (noTL_ok _ _) (noLoops ids49.2.2) ((hstep i hi).trans (show _=some (.ret,s49 a b i) by rw [hp];rfl))).post (keepOf [0,1,4])
    · exact (goes_of (tell0_ok _) (noTL_ok _ _) (noLoops ids49.2.2) ((b49 a b a.length).trans (show _=some (.exit 0,s49 a b a.length) by rw [lt_f (by omega)]))).post (keepOf [0,1,4])
  · simp at h
theorem e49 (a b:List Str):evF tell0 noTL (atL 4 LS49 noL) 1 Tryz.f45 [.pl (pStrs a) .any,.pl (pStrs b) .any] =
    bif ((a.length:Int) != (b.length:Int)) then some (.bool false) else ck_ (((a.length:Int)==(a.length:Int))&&(Nat.beq a.length b.length&&Nat.ble a.length big)) (bif (List.range a.length).all (fun i=>a.getD i []==b.getD i []) then some (.bool true) else some (.bool false)):=by kernel_rfl
theorem equal_sound (a b:List Str):Snd 45 [.pl (pStrs a) .any,.pl (pStrs b) .any] (.bool (a==b)):=by
  refine SoundAt.rooms fun hroom=>snd_fn (n:=1) (tell0_ok _) (noTL_ok _ _) (fn:=Tryz.f45) (by kernel_rfl) (loops_of (fn:=Tryz.f45) (by kernel_rfl) (loops_1 ids49.1 (atL_ok (fun _=>LS49_ok) fun h=>absurd ids49.2.1 h))) ((e49 a b).trans ?_)
  have ha:a.length * 16≤big:=hroom (.pl (pStrs a) .any) (by simp)
  by_cases hl:a.length=b.length
  · rw [all_beq [] a b hl,show ((a.length:Int) != (b.length:Int))=false by rw [hl];simp,ck_t (by rw [beq_self_eq_true,hl,Nat.beq_refl,ble_t (by omega)];rfl)]
    cases a==b<;>rfl
  · have h1:((a.length:Int) != (b.length:Int))=true:=by rw [bne_iff_ne];omega
    have h2:(a==b)=false:=by rw [beq_eq_false_iff_ne];intro h;exact hl (by rw [h])
    rw [h1,h2];rfl
def pEqual:List (D Pl)→Option (Bool×D Pl)
  | [d,e]=>match asL .strs d,asL .strs e with
    | some a,some b=>some (true,.bool ((a:List Str)==b))
    | _,_=>none
  | _=>none
theorem pEqual_ok:∀ds b d,pEqual ds=some (b,d)→b=true→Snd 45 ds d:=by
  intro ds b d h hb
  unfold pEqual at h
  split at h
  · split at h
    · rename_i h1 h2
      simp only [Option.some.injEq,Prod.mk.injEq] at h
      obtain ⟨_,rfl⟩:=h
      exact (equal_sound _ _).pre (.cons (asL_rdle h1) (.cons (asL_rdle h2) .nil))
    · simp at h
  · simp at h
end DSE
end Go.Proofs.YtobleaffkomcmaaGreatDoor
namespace Go.Proofs.YtobleaffkomcmaaGreatDoor
open Go.Eng
namespace DSE
set_option maxRecDepth 100000
def pvv (f:Val→Val→Bool×D Pl):List (D Pl)→Option (Bool×D Pl)
  | [d,e]=>match asV d,asV e with
    | some a,some b=>some (f a b)
    | _,_=>none
  | _=>none
theorem pvv_ok {g:FuncId} {f:Val→Val→Bool×D Pl} (h:∀a b,(f a b).1=true→Snd g [.agg (cV a),.agg (cV b)] (f a b).2):∀ds b d,pvv f ds=some (b,d)→b=true→Snd g ds d:=by
  intro ds b d hp hb
  unfold pvv at hp
  split at hp
  · split at hp
    · rename_i h1 h2
      simp only [Option.some.injEq] at hp
      have h3:=h _ _ (by rw [hp];exact hb)
      rw [hp] at h3
      exact h3.pre (.cons (asV_rdle h1) (.cons (asV_rdle h2) .nil))
    · simp at hp
  · simp at hp
def m47 (a b:Val):Bool:=bif (bif (bif (bif (bif (a.kind==b.kind) then a.i==b.i else false) then a.s==b.s else false) then (a.tk==b.tk&&(a.tof==b.tof&&true)) else false) then a.sec==b.sec else false) then ((a.l.length:Int)==(b.l.length:Int)) else false
def flatV (a b:Val):Bool:=m47 a b&&(a.keys==b.keys)
theorem e47 (a b:Val):ev (tell 45 pEqual tell0) noTL 1 103 [.agg (cV a),.agg (cV b)]=bif (m47 a b==true) then some (.bool (a.keys==b.keys)) else some (.bool false):=by kernel_rfl
theorem flat_sound (a b:Val):Snd 103 [.agg (cV a),.agg (cV b)] (.bool (flatV a b)):=by
  refine snd_of (tell_ok pEqual_ok (tell0_ok _)) (noTL_ok _ _) ((e47 a b).trans ?_)
  unfold flatV
  cases m47 a b<;>rfl
def s48 (a b:List Val) (i:Int):St Pl:=mkS 32 [(1,.pl (pVals b) .any),(2,.fn 76 []),(6,.bool false),(15,.pl (pVals a) .any),(16,dI a.length),(17,dI i)] []
def r48 (b:List Val):St Pl:=mkS 32 [(1,.pl (pVals b) .any),(2,.fn 76 []),(6,.bool false)] []
def tVsm (n:Nat):Eng.Told Pl:=tell 76 (pvv fun a b=>(Nat.blt (vsz a) n,.bool (sameV a b true))) tell0
theorem b48 (a b:List Val) (n i:Nat):evD (tVsm n) noTL noL 1 (loopAt 104 0) [1,2,6,15,16,17] [8,9] (s48 a b i) =
    lt_ i a.length (ix_ i a.length (ix_ i b.length (ck_ (Nat.blt (vsz (etaV (a.getD i default))) n) (bif !(sameV (etaV (a.getD i default)) (etaV (b.getD i default)) true) then some (.ret,s48 a b i) else some (.normal,s48 a b (IntKind.i64.wrap ((i:Int)+1))))))) (some (.exit 0,s48 a b i)):=by kernel_rfl
theorem ids48:(loopsAt 104).length=1∧firstId (loopAt 104 0)=4∧loopsOf (loopAt 104 0)=[]:=⟨by kernel_rfl,by kernel_rfl,by kernel_rfl⟩
def LS48 (n:Nat) (S:St Pl):Option (Bool×LR Pl):=match seenS 32 [1,2,6,15,16,17] S with
  | some ([.pl ⟨.vals,b⟩ .any,.fn 76 [],.bool false,.pl ⟨.vals,a⟩ .any,.int .i64 k,.int .i64 (.ofNat 0)],[]) =>
    some (k==(a.length:Int)&&(Nat.beq a.length b.length&&(Nat.ble a.length big&&Nat.blt (vszs a) n)),.ite ((List.range a.length).all fun i=>sameV (a.getD i default) (b.getD i default) true) (.leaf (.exit 0) (r48 b)) (.leaf .ret (r48 b)))
  | _=>none
theorem LS48_ok {n:Nat} (hT:TOk (tVsm n)):SOk X0 (loopAt 104 0) (LS48 n):=by
  intro S c r h hc
  unfold LS48 at h
  split at h
  · rename_i b a k hs
    simp only [Option.some.injEq,Prod.mk.injEq] at h
    obtain ⟨rfl,rfl⟩:=h
    simp only [Bool.and_eq_true,Nat.ble_eq,Nat.blt_eq,beq_iff_eq] at hc
    obtain ⟨rfl,hl,hb,hsz⟩:=hc
    have hl:=Nat.eq_of_beq_eq_true hl
    refine Goes.pre (keepOf [1,2,6,15,16,17]) ?_
    rw [seenS_mask hs]
    have hstep:∀i:Nat,i < a.length→evD (tVsm n) noTL noL 1 (loopAt 104 0) [1,2,6,15,16,17] [8,9] (s48 a b i)=bif !(sameV (a.getD i default) (b.getD i default) true) then some (.ret,s48 a b i) else some (.normal,s48 a b ((i+1:Nat):Int)):=by
      intro i hi
      have:=vszs_mem (getD_mem (d:=default) hi)
      rw [b48,lt_t hi,ix_t hi,ix_t (by omega),etaV_eq,etaV_eq,ck_t (blt_t (by omega)),wrap_nat (show i≤big by omega)]
    refine loop_search (Sf:=fun i=>s48 a b i) (n:=a.length) (p:=fun i=>sameV (a.getD i default) (b.getD i default) true) (by simp) (by simp) (fun i hi hp=>?_) (fun i hi hp=>?_) ?_
    · have hp:sameV (a.getD i default) (b.getD i default) true=true:=hp
      exact goes_ofD hT (noTL_ok _ _) (noLoops ids48.2.2) ((hstep i hi).trans (by rw [hp];rfl))
    · have hp:sameV (a.getD i default) (b.getD i default) true=false:=hp
      exact (goes_ofD hT (noTL_ok _ _) (noLoops ids48.2.2) ((hstep i hi).trans (show _=some (.ret,s48 a b i) by rw [hp];rfl))).post (keepOf [1,2,6])
    · exact (goes_ofD hT (noTL_ok _ _) (noLoops ids48.2.2) ((b48 a b n a.length).trans (show _=some (.exit 0,s48 a b a.length) by rw [lt_f (by omega)]))).post (keepOf [1,2,6])
  · simp at h
theorem e48 (a b:List Val) (n:Nat):evF (tVsm n) noTL (atL 4 (LS48 n) noL) 1 Tryz.f104 [.pl (pVals a) .any,.pl (pVals b) .any,.fn 76 []] =
    bif ((a.length:Int) != (b.length:Int)) then some (.bool false) else ck_ (((a.length:Int)==(a.length:Int))&&(Nat.beq a.length b.length&&(Nat.ble a.length big&&Nat.blt (vszs a) n))) (bif (List.range a.length).all (fun i=>sameV (a.getD i default) (b.getD i default) true) then some (.bool true) else some (.bool false)):=by kernel_rfl
def eqVs (a b:List Val):Bool:=((a.length:Int)==(b.length:Int))&&sameVs a b true
theorem eqfunc_n {n:Nat} (hT:TOk (tVsm n)) (a b:List Val) (hn:vszs a < n):Snd 104 [.pl (pVals a) .any,.pl (pVals b) .any,.fn 76 []] (.bool (eqVs a b)):=by
  refine SoundAt.rooms fun hroom=>snd_fn (n:=1) hT (noTL_ok _ _) (fn:=Tryz.f104) (by kernel_rfl) (loops_of (fn:=Tryz.f104) (by kernel_rfl) (loops_1 ids48.1 (atL_ok (fun _=>LS48_ok hT) fun h=>absurd ids48.2.1 h))) ((e48 a b n).trans ?_)
  have ha:a.length * 104≤big:=hroom (.pl (pVals a) .any) (by simp)
  unfold eqVs
  by_cases hl:a.length=b.length
  · rw [show ((a.length:Int) != (b.length:Int))=false by rw [hl];simp,ck_t (by rw [beq_self_eq_true,hl,Nat.beq_refl,ble_t (by omega),blt_t hn];rfl),all_same true a b hl,show ((a.length:Int)==(b.length:Int))=true by rw [hl];simp]
    cases sameVs a b true<;>rfl
  · rw [show ((a.length:Int) != (b.length:Int))=true by rw [bne_iff_ne];omega,show ((a.length:Int)==(b.length:Int))=false by rw [beq_eq_false_iff_ne];omega]
    rfl
def pEqF (n:Nat):List (D Pl)→Option (Bool×D Pl)
  | [d,e,.fn 76 []]=>match asL .vals d,asL .vals e with
    | some a,some b=>some (Nat.blt (vszs a) n,.bool (eqVs a b))
    | _,_=>none
  | _=>none
theorem pEqF_ok {n:Nat} (hT:TOk (tVsm n)):∀ds b d,pEqF n ds=some (b,d)→b=true→Snd 104 ds d:=by
  intro ds b d h hb
  unfold pEqF at h
  split at h
  · split at h
    · rename_i h1 h2
      simp only [Option.some.injEq,Prod.mk.injEq] at h
      obtain ⟨rfl,rfl⟩:=h
      simp only [Nat.blt_eq] at hb
      exact (eqfunc_n hT _ _ (by omega)).pre (.cons (asL_rdle h1) (.cons (asL_rdle h2) (.cons (RDle.refl _) .nil)))
    · simp at h
  · simp at h
theorem e43 (a b:Val) (n:Nat):evF (tell 103 (pvv fun a b=>(true,.bool (flatV a b))) (tell 104 (pEqF n) tell0)) noTL noL 0 Tryz.f76 [.agg (cV a),.agg (cV b)] =
    bif (flatV (etaV a) (etaV b)==true) then ck_ (Nat.blt (vszs a.l) n) (some (.bool (eqVs a.l b.l))) else some (.bool false):=by kernel_rfl
theorem vsame_eq (a b:Val):sameV a b true=(flatV (etaV a) (etaV b)&&eqVs a.l b.l):=by
  rw [sameV_eq]
  have key:(!(c12 a b true))=(m47 (etaV a) (etaV b)&&((a.keys.length:Int)==(b.keys.length:Int))):=by
    unfold c12 m47 etaV
    simp only [bne,cond_true]
    cases a.kind==b.kind<;>cases a.i==b.i<;>cases a.s==b.s<;>cases a.tk==b.tk<;>cases a.tof==b.tof<;>cases a.sec==b.sec<;>cases ((a.l.length:Int)==(b.l.length:Int))<;>cases ((a.keys.length:Int)==(b.keys.length:Int))<;>rfl
  cases hc:c12 a b true with
  | true =>
    rw [hc] at key
    unfold flatV
    cases hm:m47 (etaV a) (etaV b) with
    | false=>rfl
    | true =>
      rw [hm] at key
      have hk:((a.keys.length:Int)==(b.keys.length:Int))=false:=by simpa using key.symm
      have:((etaV a).keys==(etaV b).keys)=false:=by
        rw [beq_eq_false_iff_ne]
        intro h
        have h:a.keys=b.keys:=h
        rw [h] at hk
        simp at hk
      rw [this];rfl
  | false =>
    rw [hc] at key
    obtain ⟨h1,h2⟩:=c12_len hc
    have hm:m47 (etaV a) (etaV b)=true:=by
      cases hm:m47 (etaV a) (etaV b) with
      | true=>rfl
      | false=>rw [hm] at key;simp at key
    unfold flatV keysEq elemsEq eqVs
    rw [hm,all_beq [] _ _ h2,all_same true _ _ h1,show ((a.l.length:Int)==(b.l.length:Int))=true by rw [h1];simp]
    rfl
theorem vsame_n:∀n a b,vsz a < n→Snd 76 [.agg (cV a),.agg (cV b)] (.bool (sameV a b true)):=by
  intro n
  induction n with
  | zero=>intro a b h;omega
  | succ n ih =>
    intro a b hlt
    have hT:TOk (tVsm n):=tell_ok (pvv_ok fun a b h=>ih a b (by simp only [Nat.blt_eq] at h;exact h)) (tell0_ok _)
    have h1:vszs a.l < n:=by
      obtain ⟨k,i,s,l,ks,tk,tof,sec⟩:=a
      simp only [vsz] at hlt
      simp only
      omega
    refine snd_fn (n:=0) (tell_ok (pvv_ok fun a b _=>flat_sound a b) (tell_ok (pEqF_ok hT) (tell0_ok _))) (noTL_ok _ _) (fn:=Tryz.f76) (by kernel_rfl) (loops_of (f:=76) (fn:=Tryz.f76) (by kernel_rfl) (loops_0 (by kernel_rfl))) ((e43 a b n).trans ?_)
    rw [vsame_eq,ck_t (blt_t h1)]
    cases flatV (etaV a) (etaV b)<;>rfl
theorem vsame_sound (a b:Val):Snd 76 [.agg (cV a),.agg (cV b)] (.bool (sameV a b true)):=vsame_n _ a b (Nat.lt_succ_self _)
end DSE
end Go.Proofs.YtobleaffkomcmaaGreatDoor
namespace Go.Proofs.YtobleaffkomcmaaGreatDoor
open Go.Eng
namespace DSE
set_option maxRecDepth 100000
mutual
def esz:ExprR→Nat
  | ⟨_,_,_,_,l,_⟩=>1+eszs l
def eszs:List ExprR→Nat
  | []=>0
  | v::r=>esz v+eszs r
end
theorem eszs_mem {l:List ExprR} {x:ExprR} (h:x∈l):esz x≤eszs l:=by
  induction l with
  | nil=>simp at h
  | cons y r ih =>
    simp only [eszs]
    rcases List.mem_cons.1 h with rfl | h
    · omega
    · have:=ih h;omega
theorem esz_eq (e:ExprR):esz e=1+eszs e.l:=by
  obtain ⟨op,s,s2,v,l,p⟩:=e
  simp only [esz]
def eHd (a b:ExprR):Bool:=(bif (bif a.op==b.op then a.s==b.s else false) then a.s2==b.s2 else false)&&sameV a.v b.v true
mutual
def sameE:ExprR→ExprR→Bool
  | ⟨op,s,s2,v,l,p⟩,b=>eHd ⟨op,s,s2,v,l,p⟩ b&&sameEs l b.l
def sameEs:List ExprR→List ExprR→Bool
  | [],l=>l.isEmpty
  | x::r,l=>match l with
    | []=>false
    | y::s=>sameE x y&&sameEs r s
end
def allE (a b:List ExprR):Bool:=(List.range a.length).all fun i=>sameE (a.getD i default) (b.getD i default)
theorem allE_eq:∀(l l':List ExprR),l.length=l'.length→allE l l'=sameEs l l'
  | [],[],_=>rfl
  | [],_::_,h=>by simp at h
  | _::_,[],h=>by simp at h
  | x::r,y::s,h=>by
    unfold allE
    rw [List.length_cons,all_range_succ,sameEs,←allE_eq r s (by simpa using h)]
    rfl
theorem sameEs_len:∀{l l':List ExprR},sameEs l l'=true→l.length=l'.length
  | [],[],_=>rfl
  | [],_::_,h=>by simp [sameEs] at h
  | _::_,[],h=>by simp [sameEs] at h
  | x::r,y::s,h=>by
    simp only [sameEs,Bool.and_eq_true] at h
    simp only [List.length_cons,sameEs_len h.2]
theorem sameE_eq (a b:ExprR):sameE a b=(eHd a b&&sameEs a.l b.l):=by
  obtain ⟨op,s,s2,v,l,p⟩:=a
  simp only [sameE]
def etaE (e:ExprR):ExprR:=⟨e.op,e.s,e.s2,etaV e.v,e.l,e.p⟩
theorem etaE_eq (e:ExprR):etaE e=e:=by
  obtain ⟨op,s,s2,v,l,p⟩:=e
  unfold etaE
  rw [etaV_eq]
def asE:D Pl→Option ExprR
  | .agg cs=>dExpr cs
  | _=>none
theorem dExpr_rdle {cs:List (D Pl)} {e:ExprR} (h:dExpr cs=some e):RDles X0.C cs (cExpr e):=by
  unfold dExpr at h
  split at h
  · split at h
    · rename_i h1 h2 h3
      simp only [Option.some.injEq] at h
      subst h
      exact .cons (RDle.refl _) (.cons (RDle.refl _) (.cons (RDle.refl _) (.cons (RDle.refl _) (.cons (RDle.refl _) (.cons (RDle.refl _) (.cons (asL_rdle h1) (.cons (asL_rdle h2) (.cons (RDle.refl _) (.cons (RDle.refl _) (.cons (RDle.refl _) (.cons (asL_rdle h3) (RDles.refl _))))))))))))
    · simp at h
  · simp at h
theorem asE_rdle {d:D Pl} {e:ExprR} (h:asE d=some e):RDle X0.C d (.agg (cExpr e)):=by
  unfold asE at h
  split at h
  · exact RDle.agg (dExpr_rdle h)
  · simp at h
def exE:List (D Pl)→Option ExprR
  | [.int .i64 op,.str s,.str s2,.int .i64 k,.int .i64 i,.str vs,.pl ⟨.vals,l⟩ .any,.pl ⟨.strs,ks⟩ .any,.int .i64 tk,.int .i64 tof,.bool sec,.pl ⟨.exprs,x⟩ .any,.int .i64 a,.int .i64 b,.int .i64 c]=>some ⟨op,s,s2,⟨k,i,vs,l,ks,tk,tof,sec⟩,x,⟨a,b,c⟩⟩
  | _=>none
theorem exE_eq {cs:List (D Pl)} {e:ExprR} (h:exE cs=some e):cs=cExpr e:=by
  unfold exE at h
  split at h
  · simp only [Option.some.injEq] at h;subst h;rfl
  · simp at h
def pe1 (f:ExprR→Bool×D Pl):List (D Pl)→Option (Bool×D Pl)
  | [d]=>match asE d with
    | some a=>some (f a)
    | none=>none
  | _=>none
theorem pe1_ok {g:FuncId} {f:ExprR→Bool×D Pl} (h:∀a,(f a).1=true→Snd g [.agg (cExpr a)] (f a).2):∀ds b d,pe1 f ds=some (b,d)→b=true→Snd g ds d:=by
  intro ds b d hp hb
  unfold pe1 at hp
  split at hp
  · split at hp
    · rename_i ha
      simp only [Option.some.injEq] at hp
      have h1:=h _ (by rw [hp];exact hb)
      rw [hp] at h1
      exact h1.pre (.cons (asE_rdle ha) .nil)
    · simp at hp
  · simp at hp
def pe2 (f:ExprR→ExprR→Bool×D Pl):List (D Pl)→Option (Bool×D Pl)
  | [d,e]=>match asE d,asE e with
    | some a,some b=>some (f a b)
    | _,_=>none
  | _=>none
theorem pe2_ok {g:FuncId} {f:ExprR→ExprR→Bool×D Pl} (h:∀a b,(f a b).1=true→Snd g [.agg (cExpr a),.agg (cExpr b)] (f a b).2):∀ds b d,pe2 f ds=some (b,d)→b=true→Snd g ds d:=by
  intro ds b d hp hb
  unfold pe2 at hp
  split at hp
  · split at hp
    · rename_i h1 h2
      simp only [Option.some.injEq] at hp
      have h3:=h _ _ (by rw [hp];exact hb)
      rw [hp] at h3
      exact h3.pre (.cons (asE_rdle h1) (.cons (asE_rdle h2) .nil))
    · simp at hp
  · simp at hp
def pe2b (f:ExprR→ExprR→Bool→Bool×D Pl):List (D Pl)→Option (Bool×D Pl)
  | [d,e,.bool m]=>match asE d,asE e with
    | some a,some b=>some (f a b m)
    | _,_=>none
  | _=>none
theorem pe2b_ok {g:FuncId} {f:ExprR→ExprR→Bool→Bool×D Pl} (h:∀a b m,(f a b m).1=true→Snd g [.agg (cExpr a),.agg (cExpr b),.bool m] (f a b m).2):∀ds b d,pe2b f ds=some (b,d)→b=true→Snd g ds d:=by
  intro ds b d hp hb
  unfold pe2b at hp
  split at hp
  · split at hp
    · rename_i h1 h2
      simp only [Option.some.injEq] at hp
      have h3:=h _ _ _ (by rw [hp];exact hb)
      rw [hp] at h3
      exact h3.pre (.cons (asE_rdle h1) (.cons (asE_rdle h2) (.cons (RDle.refl _) .nil)))
    · simp at hp
  · simp at hp
end DSE
end Go.Proofs.YtobleaffkomcmaaGreatDoor
namespace Go.Proofs.YtobleaffkomcmaaGreatDoor
open Go.Eng
namespace DSE
set_option maxRecDepth 100000
def s48e (a b:List ExprR) (i:Int):St Pl:=mkS 32 [(1,.pl (pExprs b) .any),(2,.fn 41 []),(6,.bool false),(15,.pl (pExprs a) .any),(16,dI a.length),(17,dI i)] []
def r48e (b:List ExprR):St Pl:=mkS 32 [(1,.pl (pExprs b) .any),(2,.fn 41 []),(6,.bool false)] []
def tEsm (n:Nat):Eng.Told Pl:=tell 41 (pe2 fun a b=>(Nat.blt (esz a) n,.bool (sameE a b))) tell0
theorem b48e (a b:List ExprR) (n i:Nat):evD (tEsm n) noTL noL 1 (loopAt 77 0) [1,2,6,15,16,17] [8,9] (s48e a b i) =
    lt_ i a.length (ix_ i a.length (ix_ i b.length (ck_ (Nat.blt (esz (etaE (a.getD i default))) n) (bif !(sameE (etaE (a.getD i default)) (etaE (b.getD i default))) then some (.ret,s48e a b i) else some (.normal,s48e a b (IntKind.i64.wrap ((i:Int)+1))))))) (some (.exit 0,s48e a b i)):=by kernel_rfl
theorem ids48e:(loopsAt 77).length=1∧firstId (loopAt 77 0)=4∧loopsOf (loopAt 77 0)=[]:=⟨by kernel_rfl,by kernel_rfl,by kernel_rfl⟩
def LS48e (n:Nat) (S:St Pl):Option (Bool×LR Pl):=match seenS 32 [1,2,6,15,16,17] S with
  | some ([.pl ⟨.exprs,b⟩ .any,.fn 41 [],.bool false,.pl ⟨.exprs,a⟩ .any,.int .i64 k,.int .i64 (.ofNat 0)],[]) =>
    some (k==(a.length:Int)&&(Nat.beq a.length b.length&&(Nat.ble a.length big&&Nat.blt (eszs a) n)),.ite ((List.range a.length).all fun i=>sameE (a.getD i default) (b.getD i default)) (.leaf (.exit 0) (r48e b)) (.leaf .ret (r48e b)))
  | _=>none
theorem LS48e_ok {n:Nat} (hT:TOk (tEsm n)):SOk X0 (loopAt 77 0) (LS48e n):=by
  intro S c r h hc
  unfold LS48e at h
  split at h
  · rename_i b a k hs
    simp only [Option.some.injEq,Prod.mk.injEq] at h
    obtain ⟨rfl,rfl⟩:=h
    simp only [Bool.and_eq_true,Nat.ble_eq,Nat.blt_eq,beq_iff_eq] at hc
    obtain ⟨rfl,hl,hb,hsz⟩:=hc
    have hl:=Nat.eq_of_beq_eq_true hl
    refine Goes.pre (keepOf [1,2,6,15,16,17]) ?_
    rw [seenS_mask hs]
    have hstep:∀i:Nat,i < a.length→evD (tEsm n) noTL noL 1 (loopAt 77 0) [1,2,6,15,16,17] [8,9] (s48e a b i)=bif !(sameE (a.getD i default) (b.getD i default)) then some (.ret,s48e a b i) else some (.normal,s48e a b ((i+1:Nat):Int)):=by
      intro i hi
      have:=eszs_mem (getD_mem (d:=default) hi)
      rw [b48e,lt_t hi,ix_t hi,ix_t (by omega),etaE_eq,etaE_eq,ck_t (blt_t (by omega)),wrap_nat (show i≤big by omega)]
    refine loop_search (Sf:=fun i=>s48e a b i) (n:=a.length) (p:=fun i=>sameE (a.getD i default) (b.getD i default)) (by simp) (by simp) (fun i hi hp=>?_) (fun i hi hp=>?_) ?_
    · have hp:sameE (a.getD i default) (b.getD i default)=true:=hp
      exact goes_ofD hT (noTL_ok _ _) (noLoops ids48e.2.2) ((hstep i hi).trans (by rw [hp];rfl))
    · have hp:sameE (a.getD i default) (b.getD i default)=false:=hp
      exact (goes_ofD hT (noTL_ok _ _) (noLoops ids48e.2.2) ((hstep i hi).trans (show _=some (.ret,s48e a b i) by rw [hp];rfl))).post (keepOf [1,2,6])
    · exact (goes_ofD hT (noTL_ok _ _) (noLoops ids48e.2.2) ((b48e a b n a.length).trans (show _=some (.exit 0,s48e a b a.length) by rw [lt_f (by omega)]))).post (keepOf [1,2,6])
  · simp at h
theorem e48e (a b:List ExprR) (n:Nat):evF (tEsm n) noTL (atL 4 (LS48e n) noL) 1 Tryz.f77 [.pl (pExprs a) .any,.pl (pExprs b) .any,.fn 41 []] =
    bif ((a.length:Int) != (b.length:Int)) then some (.bool false) else ck_ (((a.length:Int)==(a.length:Int))&&(Nat.beq a.length b.length&&(Nat.ble a.length big&&Nat.blt (eszs a) n))) (bif (List.range a.length).all (fun i=>sameE (a.getD i default) (b.getD i default)) then some (.bool true) else some (.bool false)):=by kernel_rfl
def eqEs (a b:List ExprR):Bool:=((a.length:Int)==(b.length:Int))&&sameEs a b
theorem eqfuncE_n {n:Nat} (hT:TOk (tEsm n)) (a b:List ExprR) (hn:eszs a < n):Snd 77 [.pl (pExprs a) .any,.pl (pExprs b) .any,.fn 41 []] (.bool (eqEs a b)):=by
  refine SoundAt.rooms fun hroom=>snd_fn (n:=1) hT (noTL_ok _ _) (fn:=Tryz.f77) (by kernel_rfl) (loops_of (fn:=Tryz.f77) (by kernel_rfl) (loops_1 ids48e.1 (atL_ok (fun _=>LS48e_ok hT) fun h=>absurd ids48e.2.1 h))) ((e48e a b n).trans ?_)
  have ha:a.length * 192≤big:=hroom (.pl (pExprs a) .any) (by simp)
  unfold eqEs
  by_cases hl:a.length=b.length
  · rw [show ((a.length:Int) != (b.length:Int))=false by rw [hl];simp,ck_t (by rw [beq_self_eq_true,hl,Nat.beq_refl,ble_t (by omega),blt_t hn];rfl),show ((List.range a.length).all fun i=>sameE (a.getD i default) (b.getD i default))=sameEs a b from allE_eq a b hl,show ((a.length:Int)==(b.length:Int))=true by rw [hl];simp]
    cases sameEs a b<;>rfl
  · rw [show ((a.length:Int) != (b.length:Int))=true by rw [bne_iff_ne];omega,show ((a.length:Int)==(b.length:Int))=false by rw [beq_eq_false_iff_ne];omega]
    rfl
def pEqE (n:Nat):List (D Pl)→Option (Bool×D Pl)
  | [d,e,.fn 41 []]=>match asL .exprs d,asL .exprs e with
    | some a,some b=>some (Nat.blt (eszs a) n,.bool (eqEs a b))
    | _,_=>none
  | _=>none
theorem pEqE_ok {n:Nat} (hT:TOk (tEsm n)):∀ds b d,pEqE n ds=some (b,d)→b=true→Snd 77 ds d:=by
  intro ds b d h hb
  unfold pEqE at h
  split at h
  · split at h
    · rename_i h1 h2
      simp only [Option.some.injEq,Prod.mk.injEq] at h
      obtain ⟨rfl,rfl⟩:=h
      simp only [Nat.blt_eq] at hb
      exact (eqfuncE_n hT _ _ (by omega)).pre (.cons (asL_rdle h1) (.cons (asL_rdle h2) (.cons (RDle.refl _) .nil)))
    · simp at h
  · simp at h
end DSE
end Go.Proofs.YtobleaffkomcmaaGreatDoor
namespace Go.Proofs.YtobleaffkomcmaaGreatDoor
open Go.Eng
namespace DSE
set_option maxRecDepth 100000
def m10 (a b:ExprR):Bool:=bif (bif a.op==b.op then a.s==b.s else false) then a.s2==b.s2 else false
noncomputable def tS10 (n:Nat):Eng.Told Pl:=tell 76 (pvv fun a b=>(true,.bool (sameV a b true))) (tell 77 (pEqE n) tell0)
theorem e10 (a b:ExprR) (n:Nat):evF (tS10 n) noTL noL 0 Tryz.f41 [.agg (cExpr a),.agg (cExpr b)] =
    bif (m10 a b==true) then (bif (sameV (etaV a.v) (etaV b.v) true==true) then ck_ (Nat.blt (eszs a.l) n) (some (.bool (eqEs a.l b.l))) else some (.bool false)) else some (.bool false):=by kernel_rfl
theorem eqEs_eq (a b:List ExprR):eqEs a b=sameEs a b:=by
  unfold eqEs
  by_cases h:a.length=b.length
  · rw [h];simp
  · rw [show ((a.length:Int)==(b.length:Int))=false by rw [beq_eq_false_iff_ne];omega]
    cases hs:sameEs a b with
    | false=>rfl
    | true=>exact absurd (sameEs_len hs) h
theorem esame_n:∀n a b,esz a < n→Snd 41 [.agg (cExpr a),.agg (cExpr b)] (.bool (sameE a b)):=by
  intro n
  induction n with
  | zero=>intro a b h;omega
  | succ n ih =>
    intro a b hlt
    have hT:TOk (tEsm n):=tell_ok (pe2_ok fun a b h=>ih a b (by simp only [Nat.blt_eq] at h;exact h)) (tell0_ok _)
    have h1:eszs a.l < n:=by have:=esz_eq a;omega
    refine snd_fn (n:=0) (tell_ok (pvv_ok fun a b _=>vsame_sound a b) (tell_ok (pEqE_ok hT) (tell0_ok _))) (noTL_ok _ _) (fn:=Tryz.f41) (by kernel_rfl) (loops_of (f:=41) (fn:=Tryz.f41) (by kernel_rfl) (loops_0 (by kernel_rfl))) ((e10 a b n).trans ?_)
    rw [sameE_eq,ck_t (blt_t h1),etaV_eq,etaV_eq,eqEs_eq]
    unfold eHd m10
    cases (bif bif a.op==b.op then a.s==b.s else false then a.s2==b.s2 else false)<;>cases sameV a.v b.v true<;>rfl
theorem esame_sound (a b:ExprR):Snd 41 [.agg (cExpr a),.agg (cExpr b)] (.bool (sameE a b)):=esame_n _ a b (Nat.lt_succ_self _)
def s8 (a b:ExprR) (i:Int):St Pl:=mkS 74 [(2,.bool false),(3,.ptr 3 0),(4,.ptr 4 0),(6,.bool false),(7,dI i)] [(4,.box false (cExpr b)),(3,.box false (cExpr a))]
def r8 (a b:ExprR):St Pl:=mkS 74 [(2,.bool false),(3,.ptr 3 0),(4,.ptr 4 0),(6,.bool false)] [(4,.box false (cExpr b)),(3,.box false (cExpr a))]
def p8 (n:Nat):List (D Pl)→Option (Bool×D Pl):=pe2b fun a b m=>(Nat.blt (esz a) n&&!m,.bool (sameE a b))
theorem b8 (a b:ExprR) (n i:Nat):evC (tell 19 (p8 n) tell0) noTL noL 1 (loopAt 19 0) [2,3,4,6,7] (s8 a b i) =
    lt_ i a.l.length (ix_ i a.l.length (ix_ i b.l.length (ck_ (Nat.blt (esz (etaE (a.l.getD i default))) n&&true) (bif !(sameE (etaE (a.l.getD i default)) (etaE (b.l.getD i default))) then some (.ret,s8 a b i) else some (.normal,s8 a b (IntKind.i64.wrap ((i:Int)+1))))))) (some (.exit 0,s8 a b i)):=by kernel_rfl
theorem ids8:(loopsAt 19).length=1∧firstId (loopAt 19 0)=4∧loopsOf (loopAt 19 0)=[]:=⟨by kernel_rfl,by kernel_rfl,by kernel_rfl⟩
def LS8s (n:Nat) (S:St Pl):Option (Bool×LR Pl):=match seenS 74 [2,3,4,6,7] S with
  | some ([.bool false,.ptr 3 0,.ptr 4 0,.bool false,.int .i64 (.ofNat 0)],[(4,.box false cb),(3,.box false ca)])=>match exE ca,exE cb with
    | some a,some b=>some (Nat.beq a.l.length b.l.length&&(Nat.ble a.l.length big&&Nat.blt (eszs a.l) n),.ite (allE a.l b.l) (.leaf (.exit 0) (r8 a b)) (.leaf .ret (r8 a b)))
    | _,_=>none
  | _=>none
theorem LS8s_ok {n:Nat} (hT:TOk (tell 19 (p8 n) tell0)):SOk X0 (loopAt 19 0) (LS8s n):=by
  intro S c r h hc
  unfold LS8s at h
  split at h
  · rename_i cb ca hs
    split at h
    · rename_i a b ha hb
      simp only [Option.some.injEq,Prod.mk.injEq] at h
      obtain ⟨rfl,rfl⟩:=h
      simp only [Bool.and_eq_true,Nat.ble_eq,Nat.blt_eq] at hc
      obtain ⟨hl,hbig,hsz⟩:=hc
      have hl:=Nat.eq_of_beq_eq_true hl
      obtain rfl:=exE_eq ha
      obtain rfl:=exE_eq hb
      refine Goes.pre (keepOf [2,3,4,6,7]) ?_
      rw [seenS_mask hs]
      have hstep:∀i:Nat,i < a.l.length→evC (tell 19 (p8 n) tell0) noTL noL 1 (loopAt 19 0) [2,3,4,6,7] (s8 a b i)=bif !(sameE (a.l.getD i default) (b.l.getD i default)) then some (.ret,s8 a b i) else some (.normal,s8 a b ((i+1:Nat):Int)):=by
        intro i hi
        have:=eszs_mem (getD_mem (d:=default) hi)
        rw [b8,lt_t hi,ix_t hi,ix_t (by omega),etaE_eq,etaE_eq,ck_t (by rw [blt_t (by omega)];rfl),wrap_nat (show i≤big by omega)]
      unfold allE
      refine loop_search (Sf:=fun i=>s8 a b i) (n:=a.l.length) (p:=fun i=>sameE (a.l.getD i default) (b.l.getD i default)) (by simp) (by simp) (fun i hi hp=>?_) (fun i hi hp=>?_) ?_
      · have hp:sameE (a.l.getD i default) (b.l.getD i default)=true:=hp
        exact goes_of hT (noTL_ok _ _) (noLoops ids8.2.2) ((hstep i hi).trans (by rw [hp];rfl))
      · have hp:sameE (a.l.getD i default) (b.l.getD i default)=false:=hp
        exact (goes_of hT (noTL_ok _ _) (noLoops ids8.2.2) ((hstep i hi).trans (show _=some (.ret,s8 a b i) by rw [hp];rfl))).post (keepOf [2,3,4,6])
      · exact (goes_of hT (noTL_ok _ _) (noLoops ids8.2.2) ((b8 a b n a.l.length).trans (show _=some (.exit 0,s8 a b a.l.length) by rw [lt_f (by omega)]))).post (keepOf [2,3,4,6])
    · simp at h
  · simp at h
def n8 (a b:ExprR):Bool:=bif (bif a.op != b.op then true else !(a.s==b.s)) then true else !(a.s2==b.s2)
theorem e8 (a b:ExprR) (n:Nat):evF (tell 48 pSameA (tell 19 (p8 n) tell0)) noTL (atL 4 (LS8s n) noL) 1 Tryz.f19 [.agg (cExpr a),.agg (cExpr b),.bool false] =
    bif (n8 a b==false) then (bif (bif (bif !(sameV (etaV a.v) (etaV b.v) true) then true else ((a.l.length:Int) != (b.l.length:Int))) then true else false) then some (.bool false)
      else ck_ (Nat.beq a.l.length b.l.length&&(Nat.ble a.l.length big&&Nat.blt (eszs a.l) n)) (bif allE a.l b.l then some (.bool true) else some (.bool false))) else some (.bool false):=by kernel_rfl
theorem rsame_n:∀n a b,esz a < n→Snd 19 [.agg (cExpr a),.agg (cExpr b),.bool false] (.bool (sameE a b)):=by
  intro n
  induction n with
  | zero=>intro a b h;omega
  | succ n ih =>
    intro a b hlt
    have hT:TOk (tell 19 (p8 n) tell0):=tell_ok (pe2b_ok fun a b m h=>by
      simp only [Bool.and_eq_true,Nat.blt_eq,Bool.not_eq_true'] at h
      obtain ⟨h1,rfl⟩:=h
      exact ih a b h1) (tell0_ok _)
    have h1:eszs a.l < n:=by have:=esz_eq a;omega
    refine SoundAt.rooms fun hroom=>snd_fn (n:=1) (tSame_ok hT) (noTL_ok _ _) (fn:=Tryz.f19) (by kernel_rfl) (loops_of (f:=19) (fn:=Tryz.f19) (by kernel_rfl) (loops_1 ids8.1 (atL_ok (fun _=>LS8s_ok hT) fun h=>absurd ids8.2.1 h))) ((e8 a b n).trans ?_)
    have hr:Room _ (.agg (cExpr a)):=hroom _ (by simp)
    have hk:a.l.length * 192≤big:=hr (.pl (pExprs a.l) .any) (by simp [cExpr])
    rw [sameE_eq,etaV_eq,etaV_eq]
    have hm:(n8 a b==false)=m10 a b:=by
      unfold n8 m10
      rw [bne]
      cases a.op==b.op<;>cases a.s==b.s<;>cases a.s2==b.s2<;>rfl
    rw [hm]
    unfold eHd
    show _=some (D.bool (m10 a b&&sameV a.v b.v true&&sameEs a.l b.l))
    cases m10 a b with
    | false=>rfl
    | true =>
      cases sameV a.v b.v true with
      | false=>rfl
      | true =>
        by_cases hl:a.l.length=b.l.length
        · rw [show ((a.l.length:Int) != (b.l.length:Int))=false by rw [hl];simp,ck_t (by rw [show Nat.beq a.l.length b.l.length=true by rw [hl];exact Nat.beq_refl _,ble_t (by omega),blt_t h1];rfl),allE_eq _ _ hl]
          cases sameEs a.l b.l<;>rfl
        · have:sameEs a.l b.l=false:=by
            cases hs:sameEs a.l b.l with
            | false=>rfl
            | true=>exact absurd (sameEs_len hs) hl
          rw [this,show ((a.l.length:Int) != (b.l.length:Int))=true by rw [bne_iff_ne];omega]
          rfl
theorem rsame_sound' (a b:ExprR):Snd 19 [.agg (cExpr a),.agg (cExpr b),.bool false] (.bool (sameE a b)):=rsame_n _ a b (Nat.lt_succ_self _)
theorem c12_refl (v:Val) (m:Bool):c12 v v m=false:=by
  unfold c12
  cases m<;>simp
mutual
theorem sameV_refl (m:Bool):∀v:Val,sameV v v m=true
  | ⟨k,i,s,l,ks,tk,tof,sec⟩=>by
    simp only [sameV,c12_refl,beq_self_eq_true,Bool.not_false,Bool.true_and]
    exact sameVs_refl m l
theorem sameVs_refl (m:Bool):∀l:List Val,sameVs l l m=true
  | []=>rfl
  | x::r=>by simp only [sameVs,sameV_refl m x,sameVs_refl m r,Bool.true_and]
end
mutual
theorem sameE_refl:∀e:ExprR,sameE e e=true
  | ⟨op,s,s2,v,l,p⟩=>by
    simp only [sameE,eHd,beq_self_eq_true,cond_true,sameV_refl,Bool.true_and]
    exact sameEs_refl l
theorem sameEs_refl:∀l:List ExprR,sameEs l l=true
  | []=>rfl
  | x::r=>by simp only [sameEs,sameE_refl x,sameEs_refl r,Bool.true_and]
end
end DSE
end Go.Proofs.YtobleaffkomcmaaGreatDoor
