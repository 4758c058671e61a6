/-
  LISTS OF NUMBERS: all, Weight, Check, Secret, Known, is, List.
-/
import Derived.Test.YtlnkjdedeegajaaGreatDoorEVal
import Derived.Test.YtlnkjdedeegajaaGreatDoorPartsD
namespace Go.Proofs.YtlnkjdedeegajaaGreatDoor
open Go.Eng
set_option maxRecDepth 100000
namespace Ev
def intV (n:Int):Val:=⟨2,n,[],[],[],0,0,false⟩
def listV (L:List Val):Val:=⟨4,0,[],L,[],0,0,false⟩
def isIV (v:Val):Bool:=v.kind==2&&(v.s==[]&&(v.l.isEmpty&&(v.keys.isEmpty&&(v.tk==0&&(v.tof==0&&!v.sec)))))
theorem isIV_eq {v:Val} (h:isIV v=true):v=intV v.i:=by
  obtain ⟨k,i,s,l,ks,tk,tof,sec⟩:=v
  simp only [isIV,Bool.and_eq_true,beq_iff_eq,List.isEmpty_iff,Bool.not_eq_true'] at h
  obtain ⟨rfl,rfl,rfl,rfl,rfl,rfl,rfl⟩:=h
  rfl
def okL (L:List Val):Bool:=L.all isIV&&Nat.ble L.length 100
theorem okL_get {L:List Val} (h:okL L=true) {i:Nat} (hi:i < L.length):isIV (L.getD i default)=true:=by
  unfold okL at h
  rw [Bool.and_eq_true,List.all_eq_true] at h
  exact h.1 _ (getD_mem hi)
theorem okL_len {L:List Val} (h:okL L=true):L.length≤100:=by
  unfold okL at h
  rw [Bool.and_eq_true,Nat.ble_eq] at h
  exact h.2
def q4 (n:Int):Bool:=bif (bif (bif (bif n==n then true else false) then true else false) then true else false) then true else false
theorem q4_t (n:Int):q4 n=true:=by unfold q4;rw [beq_self_eq_true];rfl
theorem eAlI (n:Int):ev tell0 noTL 8 47 [.agg (cV (intV n)),dI 7]=bif (q4 n==true) then some (.bool true) else some (.bool false):=by kernel_rfl
theorem eWeI (n:Int):ev tell0 noTL 8 48 [.agg (cV (intV n))]=some (dI 1):=by kernel_rfl
theorem eChI (n:Int):ev tell0 noTL 8 26 [.agg (cV (intV n))]=bif (q4 n==true) then some (dI 0) else some (dI 1):=by kernel_rfl
theorem eKnI (n:Int):ev tell0 noTL 8 66 [.agg (cV (intV n))]=some (.bool true):=by kernel_rfl
theorem eSeI (n:Int):ev tell0 noTL 8 54 [.agg (cV (intV n))]=some (.bool false):=by kernel_rfl
theorem eIsI (n:Int):ev tell0 noTL 8 98 [.agg (cV (intV n)),.agg [dI 2,dI 0]]=some (.bool true):=by kernel_rfl
theorem evI {g:FuncId} {f:Int→D Pl} {r:List (D Pl)} (h:∀n,Snd g (.agg (cV (intV n))::r) (f n)) (v:Val) (hv:isIV v=true):Snd g (.agg (cV v)::r) (f v.i):=by rw [isIV_eq hv];exact h v.i
theorem alI (n:Int):Snd 47 [.agg (cV (intV n)),dI 7] (.bool true):=snd_of (tell0_ok _) (noTL_ok _ _) ((eAlI n).trans (by rw [q4_t];rfl))
theorem chI (n:Int):Snd 26 [.agg (cV (intV n))] (dI 0):=snd_of (tell0_ok _) (noTL_ok _ _) ((eChI n).trans (by rw [q4_t];rfl))
def pI1 (r:List (D Pl)) (d:D Pl):List (D Pl)→Option (Bool×D Pl)
  | a::s=>match asV a,r,s with
    | some v,[],[]=>some (isIV v,d)
    | some v,[.int .i64 (.ofNat 7)],[.int .i64 (.ofNat 7)]=>some (isIV v,d)
    | some v,[.agg [.int .i64 (.ofNat 2),.int .i64 (.ofNat 0)]],[.agg [.int .i64 (.ofNat 2),.int .i64 (.ofNat 0)]]=>some (isIV v,d)
    | _,_,_=>none
  | _=>none
theorem pI1_ok {g:FuncId} {r:List (D Pl)} {d:D Pl} (h:∀n,Snd g (.agg (cV (intV n))::r) d):∀ds b e,pI1 r d ds=some (b,e)→b=true→Snd g ds e:=by
  intro ds b e hp hb
  unfold pI1 at hp
  split at hp
  · split at hp
    all_goals first
      | (simp at hp;done)
      | (rename_i h1
         simp only [Option.some.injEq,Prod.mk.injEq] at hp
         obtain ⟨rfl,rfl⟩:=hp
         exact (evI (f:=fun _=>d) h _ hb).pre (.cons (asV_rdle h1) (RDles.refl _)))
  · simp at hp
def sAl (L K:List Val) (i:Int):St Pl:=mkS 27 [(1,dI 8),(2,.ptr 2 0),(4,.bool false),(15,.pl (pVals L) .any),(16,dI L.length),(17,dI i)] [(2,.box false (cV (listV K)))]
def tAl:Eng.Told Pl:=tell 47 (pI1 [dI 7] (.bool true)) tell0
theorem tAl_ok:TOk tAl:=tell_ok (pI1_ok alI) (tell0_ok _)
theorem bAl (L K:List Val) (i:Nat):evD tAl noTL noL 1 (loopAt 47 0) [1,2,4,15,16,17] [6] (sAl L K i) =
    lt_ i L.length (ix_ i L.length (ck_ (isIV (etaV (L.getD i default))) (some (.normal,sAl L K (IntKind.i64.wrap ((i:Int)+1)))))) (some (.exit 0,sAl L K i)):=by kernel_rfl
theorem idsAl:(loopsAt 47).length=1∧firstId (loopAt 47 0)=4∧loopsOf (loopAt 47 0)=[]:=⟨by kernel_rfl,by kernel_rfl,by kernel_rfl⟩
def LSAl (S:St Pl):Option (Bool×LR Pl):=match seenS 27 [1,2,4,15,16,17] S with
  | some ([.int .i64 (.ofNat 8),.ptr 2 0,.bool false,.pl ⟨.vals,l⟩ .any,.int .i64 k,.int .i64 (.ofNat 0)],[(2,.box false [.int .i64 (.ofNat 4),.int .i64 (.ofNat 0),.str [],.pl ⟨.vals,l'⟩ .any,.pl ⟨.strs,[]⟩ .any,.int .i64 (.ofNat 0),.int .i64 (.ofNat 0),.bool false])]) =>
    some (k==(l.length:Int)&&okL l,.leaf (.exit 0) (sAl l l' l.length))
  | _=>none
theorem LSAl_ok:SOk X0 (loopAt 47 0) LSAl:=by
  intro S c r h hc
  unfold LSAl at h
  split at h
  · rename_i l k l' hs
    simp only [Option.some.injEq,Prod.mk.injEq] at h
    obtain ⟨rfl,rfl⟩:=h
    simp only [Bool.and_eq_true,beq_iff_eq] at hc
    obtain ⟨rfl,hb⟩:=hc
    have hbig:big=140737488355328:=rfl
    have hl:=okL_len hb
    refine Goes.pre (keepOf [1,2,4,15,16,17]) ?_
    rw [seenS_mask hs]
    refine loop_all (Sf:=fun i:Nat=>sAl l l' i) (n:=l.length) (by simp) (fun i hi=>?_) ?_
    · refine goes_ofD tAl_ok (noTL_ok _ _) (noLoops idsAl.2.2) ((bAl l l' i).trans ?_)
      rw [lt_t hi,ix_t hi,etaV_eq,ck_t (okL_get hb hi),wrap_nat (by omega)]
    · exact goes_ofD tAl_ok (noTL_ok _ _) (noLoops idsAl.2.2) ((bAl l l' l.length).trans (lt_f (by omega) _ _))
  · simp at h
def lB (L:List Val):Bool:=((L.length:Int)==(L.length:Int))&&okL L
theorem lB_t {L:List Val} (h:okL L=true):lB L=true:=by unfold lB;rw [beq_self_eq_true,h];rfl
end Ev
end Go.Proofs.YtlnkjdedeegajaaGreatDoor
namespace Go.Proofs.YtlnkjdedeegajaaGreatDoor
open Go.Eng
set_option maxRecDepth 100000
namespace Ev
theorem eAlL (L:List Val):evF tAl noTL (atL 4 LSAl noL) 8 Tryz.f47 [.agg (cV (listV L)),dI 8] =
    bif (((L.length:Int)==(L.length:Int))==true) then (bif decide ((L.length:Int) > 128) then some (.bool false) else ck_ (lB L) (some (.bool true))) else some (.bool false):=by kernel_rfl
theorem alL (L:List Val) (h:okL L=true):Snd 47 [.agg (cV (listV L)),dI 8] (.bool true):=by
  have hl:=okL_len h
  refine snd_fn (n:=8) tAl_ok (noTL_ok _ _) (f:=47) (fn:=Tryz.f47) (by kernel_rfl) (loops_of (f:=47) (fn:=Tryz.f47) (by kernel_rfl) (loops_1 idsAl.1 (atL_ok (fun _=>LSAl_ok) fun h=>absurd idsAl.2.1 h))) ((eAlL L).trans ?_)
  rw [beq_self_eq_true,decide_eq_false (show ¬ (L.length:Int) > 128 by omega),lB_t h]
  rfl
def sWe (L K:List Val) (x i:Int):St Pl:=mkS 19 [(1,.ptr 1 0),(2,dI 0),(3,dI x),(7,.pl (pVals L) .any),(8,dI L.length),(9,dI i)] [(1,.box false (cV (listV K)))]
def tWe:Eng.Told Pl:=tell 48 (pI1 [] (dI 1)) tell0
theorem tWe_ok:TOk tWe:=tell_ok (pI1_ok fun n=>snd_of (tell0_ok _) (noTL_ok _ _) (eWeI n)) (tell0_ok _)
theorem bWe (L K:List Val) (x:Int) (i:Nat):evD tWe noTL noL 1 (loopAt 48 0) [1,2,3,7,8,9] [5] (sWe L K x i) =
    lt_ i L.length (ix_ i L.length (ck_ (isIV (etaV (L.getD i default))) (some (.normal,sWe L K (IntKind.i64.wrap (x+1)) (IntKind.i64.wrap ((i:Int)+1)))))) (some (.exit 0,sWe L K x i)):=by kernel_rfl
theorem idsWe:(loopsAt 48).length=1∧firstId (loopAt 48 0)=3∧loopsOf (loopAt 48 0)=[]:=⟨by kernel_rfl,by kernel_rfl,by kernel_rfl⟩
def LSWe (S:St Pl):Option (Bool×LR Pl):=match seenS 19 [1,2,3,7,8,9] S with
  | some ([.ptr 1 0,.int .i64 (.ofNat 0),.int .i64 (.ofNat 1),.pl ⟨.vals,l⟩ .any,.int .i64 k,.int .i64 (.ofNat 0)],[(1,.box false [.int .i64 (.ofNat 4),.int .i64 (.ofNat 0),.str [],.pl ⟨.vals,l'⟩ .any,.pl ⟨.strs,[]⟩ .any,.int .i64 (.ofNat 0),.int .i64 (.ofNat 0),.bool false])]) =>
    some (k==(l.length:Int)&&okL l,.leaf (.exit 0) (sWe l l' ((l.length+1:Nat):Int) l.length))
  | _=>none
theorem LSWe_ok:SOk X0 (loopAt 48 0) LSWe:=by
  intro S c r h hc
  unfold LSWe at h
  split at h
  · rename_i l k l' hs
    simp only [Option.some.injEq,Prod.mk.injEq] at h
    obtain ⟨rfl,rfl⟩:=h
    simp only [Bool.and_eq_true,beq_iff_eq] at hc
    obtain ⟨rfl,hb⟩:=hc
    have hbig:big=140737488355328:=rfl
    have hl:=okL_len hb
    refine Goes.pre (keepOf [1,2,3,7,8,9]) ?_
    rw [seenS_mask hs]
    refine loop_all (Sf:=fun i:Nat=>sWe l l' ((i+1:Nat):Int) i) (n:=l.length) (by simp) (fun i hi=>?_) ?_
    · refine goes_ofD tWe_ok (noTL_ok _ _) (noLoops idsWe.2.2) ((bWe l l' _ i).trans ?_)
      rw [lt_t hi,ix_t hi,etaV_eq,ck_t (okL_get hb hi),wrap_nat (by omega),wrap_nat (by omega)]
    · exact goes_ofD tWe_ok (noTL_ok _ _) (noLoops idsWe.2.2) ((bWe l l' _ l.length).trans (lt_f (by omega) _ _))
  · simp at h
theorem eWeL (L:List Val):evF tWe noTL (atL 3 LSWe noL) 8 Tryz.f48 [.agg (cV (listV L))]=ck_ (lB L) (some (dI ((L.length+1:Nat):Int))):=by kernel_rfl
theorem weL (L:List Val) (h:okL L=true):Snd 48 [.agg (cV (listV L))] (dI ((L.length+1:Nat):Int)) :=
  snd_fn (n:=8) tWe_ok (noTL_ok _ _) (f:=48) (fn:=Tryz.f48) (by kernel_rfl) (loops_of (f:=48) (fn:=Tryz.f48) (by kernel_rfl) (loops_1 idsWe.1 (atL_ok (fun _=>LSWe_ok) fun h=>absurd idsWe.2.1 h))) ((eWeL L).trans (by rw [lB_t h];rfl))
def isLV (v:Val):Bool:=v.kind==4&&(v.i==0&&(v.s==[]&&(v.keys.isEmpty&&(v.tk==0&&(v.tof==0&&(!v.sec&&okL v.l))))))
theorem isLV_eq {v:Val} (h:isLV v=true):v=listV v.l∧okL v.l=true:=by
  obtain ⟨k,i,s,l,ks,tk,tof,sec⟩:=v
  simp only [isLV,Bool.and_eq_true,beq_iff_eq,List.isEmpty_iff,Bool.not_eq_true'] at h
  obtain ⟨rfl,rfl,rfl,rfl,rfl,rfl,rfl,h⟩:=h
  exact ⟨rfl,h⟩
theorem isLV_t {L:List Val} (h:okL L=true):isLV (listV L)=true:=by
  simp [isLV,listV,h]
def pL1 (r:List (D Pl)) (f:List Val→D Pl):List (D Pl)→Option (Bool×D Pl)
  | a::s=>match asV a,r,s with
    | some v,[],[]=>some (isLV v,f v.l)
    | some v,[.int .i64 (.ofNat 8)],[.int .i64 (.ofNat 8)]=>some (isLV v,f v.l)
    | some v,[.agg [.int .i64 (.ofNat 4),.int .i64 (.ofNat 2)]],[.agg [.int .i64 (.ofNat 4),.int .i64 (.ofNat 2)]]=>some (isLV v,f v.l)
    | _,_,_=>none
  | _=>none
theorem pL1_ok {g:FuncId} {r:List (D Pl)} {f:List Val→D Pl} (h:∀L,okL L=true→Snd g (.agg (cV (listV L))::r) (f L)):∀ds b e,pL1 r f ds=some (b,e)→b=true→Snd g ds e:=by
  intro ds b e hp hb
  unfold pL1 at hp
  split at hp
  · split at hp
    all_goals first
      | (simp at hp;done)
      | (rename_i h1
         simp only [Option.some.injEq,Prod.mk.injEq] at hp
         obtain ⟨rfl,rfl⟩:=hp
         obtain ⟨e1,e2⟩:=isLV_eq hb
         have h2:=h _ e2
         rw [←e1] at h2
         exact h2.pre (.cons (asV_rdle h1) (RDles.refl _)))
  · simp at hp
def tCh:Eng.Told Pl:=tell 47 (pL1 [dI 8] fun _=>.bool true) (tell 48 (pL1 [] fun L=>dI ((L.length+1:Nat):Int)) tell0)
theorem tCh_ok:TOk tCh:=tell_ok (pL1_ok alL) (tell_ok (pL1_ok weL) (tell0_ok _))
theorem eChL (L:List Val):evF tCh noTL noL 8 Tryz.f26 [.agg (cV (listV L))]=ck_ (isLV (listV L)) (ck_ (isLV (listV L)) (bif decide (((L.length+1:Nat):Int) > 512) then some (dI 1) else some (dI 0))):=by kernel_rfl
theorem chL (L:List Val) (h:okL L=true):Snd 26 [.agg (cV (listV L))] (dI 0):=by
  have hl:=okL_len h
  refine snd_fn (n:=8) tCh_ok (noTL_ok _ _) (f:=26) (fn:=Tryz.f26) (by kernel_rfl) (loops_of (f:=26) (fn:=Tryz.f26) (by kernel_rfl) (loops_0 (by kernel_rfl))) ((eChL L).trans ?_)
  rw [isLV_t h,decide_eq_false (show ¬ ((L.length+1:Nat):Int) > 512 by omega)]
  rfl
def sSx (L:List Val) (i:Int):St Pl:=mkS 19 [(0,.pl (pVals L) .any),(1,.fn 54 []),(4,dI 0),(7,dI L.length),(8,dI i)] []
def tSx:Eng.Told Pl:=tell 54 (pI1 [] (.bool false)) tell0
theorem tSx_ok:TOk tSx:=tell_ok (pI1_ok fun n=>snd_of (tell0_ok _) (noTL_ok _ _) (eSeI n)) (tell0_ok _)
noncomputable abbrev lSx:Code:=loopAt 101 0
theorem bSx (L:List Val) (i:Nat):evD tSx noTL noL 2 lSx [0,1,4,7,8] [] (sSx L i) =
    lt_ i L.length (ix_ i L.length (ck_ (isIV (etaV (L.getD i default))) (some (.normal,sSx L (IntKind.i64.wrap ((i:Int)+1)))))) (some (.exit 0,sSx L i)):=by kernel_rfl
theorem idsSx:(loopsAt 101).length=1∧firstId lSx=2∧loopsOf lSx=[]:=⟨by kernel_rfl,by kernel_rfl,by kernel_rfl⟩
def LSSx (S:St Pl):Option (Bool×LR Pl):=match seenS 19 [0,1,4,7,8] S with
  | some ([.pl ⟨.vals,l⟩ .any,.fn 54 [],.int .i64 (.ofNat 0),.int .i64 k,.int .i64 (.ofNat 0)],[]) =>
    some (k==(l.length:Int)&&okL l,.leaf (.exit 0) (sSx l l.length))
  | _=>none
theorem LSSx_ok:SOk X0 lSx LSSx:=by
  intro S c r h hc
  unfold LSSx at h
  split at h
  · rename_i l k hs
    simp only [Option.some.injEq,Prod.mk.injEq] at h
    obtain ⟨rfl,rfl⟩:=h
    simp only [Bool.and_eq_true,beq_iff_eq] at hc
    obtain ⟨rfl,hb⟩:=hc
    have hbig:big=140737488355328:=rfl
    have hl:=okL_len hb
    refine Goes.pre (keepOf [0,1,4,7,8]) ?_
    rw [seenS_mask hs]
    refine loop_all (Sf:=fun i:Nat=>sSx l i) (n:=l.length) (by simp) (fun i hi=>?_) ?_
    · refine goes_ofD tSx_ok (noTL_ok _ _) (noLoops idsSx.2.2) ((bSx l i).trans ?_)
      rw [lt_t hi,ix_t hi,etaV_eq,ck_t (okL_get hb hi),wrap_nat (by omega)]
    · exact goes_ofD tSx_ok (noTL_ok _ _) (noLoops idsSx.2.2) ((bSx l l.length).trans (lt_f (by omega) _ _))
  · simp at h
theorem eSx (L:List Val):evF tSx noTL (atL 2 LSSx noL) 2 Tryz.f101 [.pl (pVals L) .any,.fn 54 []]=ck_ (lB L) (some (dI (-1))):=by kernel_rfl
def pSx:List (D Pl)→Option (Bool×D Pl)
  | [.pl ⟨.vals,l⟩ .any,.fn 54 []]=>some (okL l,dI (-1))
  | _=>none
theorem pSx_ok:∀ds b d,pSx ds=some (b,d)→b=true→Snd 101 ds d:=by
  intro ds b d h hb
  unfold pSx at h
  split at h
  · rename_i l
    simp only [Option.some.injEq,Prod.mk.injEq] at h
    obtain ⟨rfl,rfl⟩:=h
    exact snd_fn (n:=2) tSx_ok (noTL_ok _ _) (f:=101) (fn:=Tryz.f101) (by kernel_rfl) (loops_of (f:=101) (fn:=Tryz.f101) (by kernel_rfl) (loops_1 idsSx.1 (atL_ok (fun _=>LSSx_ok) fun h=>absurd idsSx.2.1 h))) ((eSx l).trans (by rw [lB_t hb];rfl))
  · simp at h
def sKx (L:List Val) (i:Int):St Pl:=mkS 19 [(0,.pl (pVals L) .any),(1,.fn 110 []),(4,dI 0),(7,dI L.length),(8,dI i)] []
def tKx:Eng.Told Pl:=tell 66 (pI1 [] (.bool true)) tell0
theorem tKx_ok:TOk tKx:=tell_ok (pI1_ok fun n=>snd_of (tell0_ok _) (noTL_ok _ _) (eKnI n)) (tell0_ok _)
noncomputable abbrev lKx:Code:=loopAt 101 0
theorem bKx (L:List Val) (i:Nat):evD tKx noTL noL 2 lKx [0,1,4,7,8] [] (sKx L i) =
    lt_ i L.length (ix_ i L.length (ck_ (isIV (etaV (L.getD i default))) (some (.normal,sKx L (IntKind.i64.wrap ((i:Int)+1)))))) (some (.exit 0,sKx L i)):=by kernel_rfl
theorem idsKx:(loopsAt 101).length=1∧firstId lKx=2∧loopsOf lKx=[]:=⟨by kernel_rfl,by kernel_rfl,by kernel_rfl⟩
def LSKx (S:St Pl):Option (Bool×LR Pl):=match seenS 19 [0,1,4,7,8] S with
  | some ([.pl ⟨.vals,l⟩ .any,.fn 110 [],.int .i64 (.ofNat 0),.int .i64 k,.int .i64 (.ofNat 0)],[]) =>
    some (k==(l.length:Int)&&okL l,.leaf (.exit 0) (sKx l l.length))
  | _=>none
theorem LSKx_ok:SOk X0 lKx LSKx:=by
  intro S c r h hc
  unfold LSKx at h
  split at h
  · rename_i l k hs
    simp only [Option.some.injEq,Prod.mk.injEq] at h
    obtain ⟨rfl,rfl⟩:=h
    simp only [Bool.and_eq_true,beq_iff_eq] at hc
    obtain ⟨rfl,hb⟩:=hc
    have hbig:big=140737488355328:=rfl
    have hl:=okL_len hb
    refine Goes.pre (keepOf [0,1,4,7,8]) ?_
    rw [seenS_mask hs]
    refine loop_all (Sf:=fun i:Nat=>sKx l i) (n:=l.length) (by simp) (fun i hi=>?_) ?_
    · refine goes_ofD tKx_ok (noTL_ok _ _) (noLoops idsKx.2.2) ((bKx l i).trans ?_)
      rw [lt_t hi,ix_t hi,etaV_eq,ck_t (okL_get hb hi),wrap_nat (by omega)]
    · exact goes_ofD tKx_ok (noTL_ok _ _) (noLoops idsKx.2.2) ((bKx l l.length).trans (lt_f (by omega) _ _))
  · simp at h
theorem eKx (L:List Val):evF tKx noTL (atL 2 LSKx noL) 2 Tryz.f101 [.pl (pVals L) .any,.fn 110 []]=ck_ (lB L) (some (dI (-1))):=by kernel_rfl
def pKx:List (D Pl)→Option (Bool×D Pl)
  | [.pl ⟨.vals,l⟩ .any,.fn 110 []]=>some (okL l,dI (-1))
  | _=>none
theorem pKx_ok:∀ds b d,pKx ds=some (b,d)→b=true→Snd 101 ds d:=by
  intro ds b d h hb
  unfold pKx at h
  split at h
  · rename_i l
    simp only [Option.some.injEq,Prod.mk.injEq] at h
    obtain ⟨rfl,rfl⟩:=h
    exact snd_fn (n:=2) tKx_ok (noTL_ok _ _) (f:=101) (fn:=Tryz.f101) (by kernel_rfl) (loops_of (f:=101) (fn:=Tryz.f101) (by kernel_rfl) (loops_1 idsKx.1 (atL_ok (fun _=>LSKx_ok) fun h=>absurd idsKx.2.1 h))) ((eKx l).trans (by rw [lB_t hb];rfl))
  · simp at h
def sIx (L:List Val) (i:Int):St Pl:=mkS 19 [(0,.pl (pVals L) .any),(1,.fn 130 [.ref [dI 4,dI 2]]),(4,dI 0),(7,dI L.length),(8,dI i)] []
def tIx:Eng.Told Pl:=tell 98 (pI1 [.agg [dI 2,dI 0]] (.bool true)) tell0
theorem tIx_ok:TOk tIx:=tell_ok (pI1_ok fun n=>snd_of (tell0_ok _) (noTL_ok _ _) (eIsI n)) (tell0_ok _)
noncomputable abbrev lIx:Code:=loopAt 101 0
theorem bIx (L:List Val) (i:Nat):evD tIx noTL noL 2 lIx [0,1,4,7,8] [] (sIx L i) =
    lt_ i L.length (ix_ i L.length (ck_ (isIV (etaV (L.getD i default))) (some (.normal,sIx L (IntKind.i64.wrap ((i:Int)+1)))))) (some (.exit 0,sIx L i)):=by kernel_rfl
theorem idsIx:(loopsAt 101).length=1∧firstId lIx=2∧loopsOf lIx=[]:=⟨by kernel_rfl,by kernel_rfl,by kernel_rfl⟩
def LSIx (S:St Pl):Option (Bool×LR Pl):=match seenS 19 [0,1,4,7,8] S with
  | some ([.pl ⟨.vals,l⟩ .any,.fn 130 [.ref [.int .i64 (.ofNat 4),.int .i64 (.ofNat 2)]],.int .i64 (.ofNat 0),.int .i64 k,.int .i64 (.ofNat 0)],[]) =>
    some (k==(l.length:Int)&&okL l,.leaf (.exit 0) (sIx l l.length))
  | _=>none
theorem LSIx_ok:SOk X0 lIx LSIx:=by
  intro S c r h hc
  unfold LSIx at h
  split at h
  · rename_i l k hs
    simp only [Option.some.injEq,Prod.mk.injEq] at h
    obtain ⟨rfl,rfl⟩:=h
    simp only [Bool.and_eq_true,beq_iff_eq] at hc
    obtain ⟨rfl,hb⟩:=hc
    have hbig:big=140737488355328:=rfl
    have hl:=okL_len hb
    refine Goes.pre (keepOf [0,1,4,7,8]) ?_
    rw [seenS_mask hs]
    refine loop_all (Sf:=fun i:Nat=>sIx l i) (n:=l.length) (by simp) (fun i hi=>?_) ?_
    · refine goes_ofD tIx_ok (noTL_ok _ _) (noLoops idsIx.2.2) ((bIx l i).trans ?_)
      rw [lt_t hi,ix_t hi,etaV_eq,ck_t (okL_get hb hi),wrap_nat (by omega)]
    · exact goes_ofD tIx_ok (noTL_ok _ _) (noLoops idsIx.2.2) ((bIx l l.length).trans (lt_f (by omega) _ _))
  · simp at h
theorem eIx (L:List Val):evF tIx noTL (atL 2 LSIx noL) 2 Tryz.f101 [.pl (pVals L) .any,.fn 130 [.ref [dI 4,dI 2]]]=ck_ (lB L) (some (dI (-1))):=by kernel_rfl
def pIx:List (D Pl)→Option (Bool×D Pl)
  | [.pl ⟨.vals,l⟩ .any,.fn 130 [.ref [.int .i64 (.ofNat 4),.int .i64 (.ofNat 2)]]]=>some (okL l,dI (-1))
  | _=>none
theorem pIx_ok:∀ds b d,pIx ds=some (b,d)→b=true→Snd 101 ds d:=by
  intro ds b d h hb
  unfold pIx at h
  split at h
  · rename_i l
    simp only [Option.some.injEq,Prod.mk.injEq] at h
    obtain ⟨rfl,rfl⟩:=h
    exact snd_fn (n:=2) tIx_ok (noTL_ok _ _) (f:=101) (fn:=Tryz.f101) (by kernel_rfl) (loops_of (f:=101) (fn:=Tryz.f101) (by kernel_rfl) (loops_1 idsIx.1 (atL_ok (fun _=>LSIx_ok) fun h=>absurd idsIx.2.1 h))) ((eIx l).trans (by rw [lB_t hb];rfl))
  · simp at h
def tIxs:Eng.Told Pl:=tell 101 pSx (tell 101 pKx (tell 101 pIx tell0))
theorem tIxs_ok:TOk tIxs:=tell_ok pSx_ok (tell_ok pKx_ok (tell_ok pIx_ok (tell0_ok _)))
theorem eSeL (L:List Val):ev tIxs noTL 5 54 [.agg (cV (listV L))]=ck_ (okL L) (some (.bool false)):=by kernel_rfl
theorem eKnL (L:List Val):ev tIxs noTL 5 66 [.agg (cV (listV L))]=ck_ (okL L) (some (.bool true)):=by kernel_rfl
theorem eIsL (L:List Val):ev tIxs noTL 5 98 [.agg (cV (listV L)),.agg [dI 4,dI 2]]=ck_ (okL L) (some (.bool true)):=by kernel_rfl
theorem seL (L:List Val) (h:okL L=true):Snd 54 [.agg (cV (listV L))] (.bool false):=snd_of tIxs_ok (noTL_ok _ _) ((eSeL L).trans (by rw [h];rfl))
theorem knL (L:List Val) (h:okL L=true):Snd 66 [.agg (cV (listV L))] (.bool true):=snd_of tIxs_ok (noTL_ok _ _) ((eKnL L).trans (by rw [h];rfl))
theorem isL (L:List Val) (h:okL L=true):Snd 98 [.agg (cV (listV L)),.agg [dI 4,dI 2]] (.bool true):=snd_of tIxs_ok (noTL_ok _ _) ((eIsL L).trans (by rw [h];rfl))
def cNilL (l:D Pl):List (D Pl):=[dI 4,dI 0,.str [],l,.nilS,dI 0,dI 0,.bool false]
def sLi0 (L:List Val):St Pl:=mkS 22 [(2,.ptr 2 0),(3,.ptr 3 0),(7,.pl (pVals L) .any),(8,dI L.length),(9,dI 0)] [(3,.box false (cNilL .nilS)),(2,.box false cZ)]
def sLi (L acc:List Val) (i:Int):St Pl:=mkS 22 [(2,.ptr 2 0),(3,.ptr 3 0),(7,.pl (pVals L) .any),(8,dI L.length),(9,dI i)] [(18,.arr false (pVals acc)),(3,.box false (cNilL (.arr 18))),(2,.box false cZ)]
def FLi:Fix Pl:={ keep:=[2,3,7,8,9],lose:=[5] }
theorem weakLi_eq (L:List Val):nilsS X0.C [(.cell 3 3,18,pVals [])] (sLi0 L)=sLi L [] 0:=by kernel_rfl
theorem weakLi (L:List Val):Weak X0 (sLi0 L) (sLi L [] 0):=weakLi_eq L ▸ Weak.nils xok [(.cell 3 3,18,pVals [])] (sLi0 L)
def tLi:Eng.Told Pl:=tell 46 (p1 fun v=>(true,.agg (cV v))) tell0
theorem tLi_ok:TOk tLi:=tell_ok (p1_ok fun v _=>copy_sound v) (tell0_ok _)
theorem bLi (L acc:List Val) (i:Nat):evZ tLi noTL noL 1 (loopAt 41 0) FLi (sLi L acc i) =
    lt_ i L.length (ix_ i L.length (ck_ (Nat.ble ((acc.length+1) * 104) big) (some (.normal,sLi L (acc++[etaV (L.getD i default)]) (IntKind.i64.wrap ((i:Int)+1)))))) (some (.exit 0,sLi L acc i)):=by kernel_rfl
theorem idsLi:(loopsAt 41).length=1∧firstId (loopAt 41 0)=3∧loopsOf (loopAt 41 0)=[]:=⟨by kernel_rfl,by kernel_rfl,by kernel_rfl⟩
def LSLi (S:St Pl):Option (Bool×LR Pl):=match seenS 22 [2,3,7,8,9] S with
  | some ([.ptr 2 0,.ptr 3 0,.pl ⟨.vals,l⟩ .any,.int .i64 k,.int .i64 (.ofNat 0)],[(3,.box false [.int .i64 (.ofNat 4),.int .i64 (.ofNat 0),.str [],.nilS,.nilS,.int .i64 (.ofNat 0),.int .i64 (.ofNat 0),.bool false]),(2,.box false [.int .i64 (.ofNat 0),.int .i64 (.ofNat 0),.str [],.nilS,.nilS,.int .i64 (.ofNat 0),.int .i64 (.ofNat 0),.bool false])]) =>
    some (k==(l.length:Int)&&Nat.ble l.length 1000,.leaf (.exit 0) (sLi l l l.length))
  | _=>none
theorem LSLi_ok:SOk X0 (loopAt 41 0) LSLi:=by
  intro S c r h hc
  unfold LSLi at h
  split at h
  · rename_i l k hs
    simp only [Option.some.injEq,Prod.mk.injEq] at h
    obtain ⟨rfl,rfl⟩:=h
    simp only [Bool.and_eq_true,beq_iff_eq,Nat.ble_eq] at hc
    obtain ⟨rfl,hl⟩:=hc
    have hbig:big=140737488355328:=rfl
    refine Goes.pre (keepOf [2,3,7,8,9]) ?_
    rw [seenS_mask hs]
    refine Goes.weakPre (weakLi l) ?_
    have last:sLi l l l.length=sLi l (l.take l.length) l.length:=by rw [List.take_length]
    rw [last]
    refine loop_all (Sf:=fun i:Nat=>sLi l (l.take i) i) (n:=l.length) (by simp) (fun i hi=>?_) ?_
    · refine goes_ofZ tLi_ok (noTL_ok _ _) (noLoops idsLi.2.2) ((bLi l _ i).trans ?_)
      rw [lt_t hi,ix_t hi,etaV_eq,ck_t (ble_t (by rw [List.length_take];omega)),take_snoc l hi,wrap_nat (by omega)]
    · exact goes_ofZ tLi_ok (noTL_ok _ _) (noLoops idsLi.2.2) ((bLi l _ l.length).trans (lt_f (by omega) _ _))
  · simp at h
theorem eLi (L:List Val):evF tLi noTL (atL 3 LSLi noL) 1 Tryz.f41 [.pl (pVals L) .any] =
    ck_ (((L.length:Int)==(L.length:Int))&&Nat.ble L.length 1000) (some (.agg [dI 4,dI 0,.str [],.pl (pVals L) .any,.nilS,dI 0,dI 0,.bool false])):=by kernel_rfl
theorem li_sound (L:List Val) (h:L.length≤1000):Snd 41 [.pl (pVals L) .any] (.agg (cV (listV L))):=by
  refine (snd_fn (n:=1) tLi_ok (noTL_ok _ _) (f:=41) (fn:=Tryz.f41) (by kernel_rfl) (loops_of (f:=41) (fn:=Tryz.f41) (by kernel_rfl) (loops_1 idsLi.1 (atL_ok (fun _=>LSLi_ok) fun h=>absurd idsLi.2.1 h))) ((eLi L).trans (by rw [beq_self_eq_true,ble_t h];rfl))).post ?_
  exact RDle.agg (.cons (RDle.refl _) (.cons (RDle.refl _) (.cons (RDle.refl _) (.cons (RDle.refl _) (.cons (RDle.of (.nil _ rfl)) (RDles.refl _))))))
end Ev
end Go.Proofs.YtlnkjdedeegajaaGreatDoor
