/-
  THE MACHINE: a sum over a list; the whole of the law's expression.
-/
import Derived.Test.YtlnkjdedeegajaaGreatDoorEvP
namespace Go.Proofs.YtlnkjdedeegajaaGreatDoor
open Go.Eng
set_option maxRecDepth 100000
namespace Ev
def pLi:List (D Pl)→Option (Bool×D Pl)
  | [.pl ⟨.vals,l⟩ .any]=>some (Nat.ble l.length 1000,.agg (cV (listV l)))
  | _=>none
theorem pLi_ok:∀ds b d,pLi ds=some (b,d)→b=true→Snd 41 ds d:=by
  intro ds b d h hb
  unfold pLi at h
  split at h
  · simp only [Option.some.injEq,Prod.mk.injEq] at h
    obtain ⟨rfl,rfl⟩:=h
    exact li_sound _ (by simpa using hb)
  · simp at h
def tLp:Eng.Told Pl:=tell 41 pLi tV
theorem tLp_ok:TOk tLp:=tell_ok pLi_ok tV_ok
def noFu (os:MR→List (D Pl)) (f:Int) (p:PosR):Option (D Pl):=some (.env (os ⟨f,3,p,sFuel⟩) (.agg cZ))
noncomputable def lpV (C:List BindR→ExprR→List Val→Int→Prop) (OK:List Val→Int→Bool) (FO:List Val→Int→Int) (AO:List Val→List Val) (BX:List Val→Int→PosR×List Val×Int) (os:MR→List (D Pl)) (N:List BindR) (F:ExprR) (q:PosR) (L:List Val) (f:Int):Option (D Pl) :=
  bif f==0 then noFu os f q else ck_ (isLV (listV L)) (ck_ (((L.length:Int)==(L.length:Int))&&Go.Proofs.YtlnkjdedeegajaaGreatDoor.cB ((L=L∧N=N)∧C N F L (IntKind.i64.wrap (f - 1))))
    (bif OK L (IntKind.i64.wrap (f - 1)) then ck_ (Nat.ble (AO L).length 1000) (some (.env (osP N (okM (FO L (IntKind.i64.wrap (f - 1))))) (.agg (cV (listV (AO L)))))) else some (.env (osP N ⟨0,3,(BX L (IntKind.i64.wrap (f - 1))).1,sFuel⟩) (.agg cZ))))
theorem eLpN (C:List BindR→ExprR→List Val→Int→Prop) (OK:List Val→Int→Bool) (FO:List Val→Int→Int) (AO:List Val→List Val) (BX:List Val→Int→PosR×List Val×Int) (L:List Val) (f:Int) (B:ExprR) (q p:PosR):∀j,j < 3 →
    evM tLp noTL (atL 15 (LSLo C OK FO AO BX) noL) 20 Tryz.f44 (decH (osN (Nj j L) (okM f))) [.ptr 50000 0,.agg (cExpr (forE (xj j) q p B))]=lpV C OK FO AO BX (osN (Nj j L)) (Nj j L) (forE (xj j) q p B) q L f
  | 0,_=>by kernel_rfl
  | 1,_=>by kernel_rfl
  | 2,_=>by kernel_rfl
  | _+3,h=>by omega
theorem eLpP (C:List BindR→ExprR→List Val→Int→Prop) (OK:List Val→Int→Bool) (FO:List Val→Int→Int) (AO:List Val→List Val) (BX:List Val→Int→PosR×List Val×Int) (L:List Val) (f:Int) (B:ExprR) (q p:PosR):∀j,j < 3 →
    evM tLp noTL (atL 15 (LSLo C OK FO AO BX) noL) 20 Tryz.f44 (decH (osP (Nj j L) (okM f))) [.ptr 50000 0,.agg (cExpr (forE (xj j) q p B))]=lpV C OK FO AO BX (osP (Nj j L)) (Nj j L) (forE (xj j) q p B) q L f
  | 0,_=>by kernel_rfl
  | 1,_=>by kernel_rfl
  | 2,_=>by kernel_rfl
  | _+3,h=>by omega
theorem okL_ones {L:List Val} (h:∀x∈L,x=intV 1) (hk:L.length≤100):okL L=true:=by
  unfold okL
  rw [Bool.and_eq_true,List.all_eq_true]
  exact ⟨fun x hx=>by rw [h x hx];rfl,ble_t hk⟩
theorem cZ_rdle:RDle X0.C (.agg cZ) (.agg (cV v00)):=RDle.agg (.cons (RDle.refl _) (.cons (RDle.refl _) (.cons (RDle.refl _) (.cons (RDle.of (.nil _ rfl)) (.cons (RDle.of (.nil _ rfl)) (RDles.refl _))))))
def gLp (q:PosR) (t:Nat) (v:Int) (g:Int→PosR) (L:List Val) (f:Int):PosR:=if f=0 then q else (bxLo t v g L (f - 1)).1
theorem lp_sound {j:Nat} {z:Bool} {B:ExprR} {L:List Val} {t:Nat} {v:Int} {g:Int→PosR} (h:LpH j z B L t v g) (q p:PosR) (y:Bool) (f:Int) (h0:0≤f) (h1:f≤20000) :
    SndM 44 (decH (osZ y (Nj j L) (okM f))) [.ptr 50000 0,.agg (cExpr (forE (xj j) q p B))] (.agg (cV (Vt (1+L.length * t) (listV (aoLo v L)) f))) (decH (osP (Nj j L) (Mt (1+L.length * t) (gLp q t v g L) f))):=by
  have hL:=loops_of (f:=44) (L:=atL 15 (LSLo (CLo j L q p B) (okLo t) (foLo t) (aoLo v) (bxLo t v g)) noL) (fn:=Tryz.f44) (by kernel_rfl) (loops_1 idsLo.1 (atL_ok (fun _=>LSLo_ok h q p) fun h=>absurd idsLo.2.1 h))
  have he:evM tLp noTL (atL 15 (LSLo (CLo j L q p B) (okLo t) (foLo t) (aoLo v) (bxLo t v g)) noL) 20 Tryz.f44 (decH (osZ y (Nj j L) (okM f))) [.ptr 50000 0,.agg (cExpr (forE (xj j) q p B))] =
      lpV (CLo j L q p B) (okLo t) (foLo t) (aoLo v) (bxLo t v g) (osZ y (Nj j L)) (Nj j L) (forE (xj j) q p B) q L f:=by
    cases y with
    | true=>exact eLpN _ _ _ _ _ L f B q p j h.hj
    | false=>exact eLpP _ _ _ _ _ L f B q p j h.hj
  by_cases hf:f=0
  · subst hf
    have e1:Vt (1+L.length * t) (listV (aoLo v L)) 0=v00:=if_neg (by omega)
    have e2:Mt (1+L.length * t) (gLp q t v g L) 0=⟨0,3,q,sFuel⟩:=by
      unfold Mt
      rw [if_neg (by omega)]
      rfl
    rw [e1,e2]
    have go:=snd_m (n:=20) tLp_ok (noTL_ok _ _) (f:=44) (fn:=Tryz.f44) (by kernel_rfl) hL (he.trans (show lpV _ _ _ _ _ _ _ _ _ _ _=some (.env (osZ y (Nj j L) ⟨0,3,q,sFuel⟩) (.agg cZ)) from rfl))
    have go:=SoundM.post cZ_rdle go
    cases y with
    | true=>exact toP rfl go
    | false=>exact go
  · have hw:IntKind.i64.wrap (f - 1)=f - 1:=wrap_in _ (by omega)
    have hcB:Go.Proofs.YtlnkjdedeegajaaGreatDoor.cB ((L=L∧Nj j L=Nj j L)∧CLo j L q p B (Nj j L) (forE (xj j) q p B) L (f - 1))=true:=@decide_eq_true _ (Classical.propDecidable _) ⟨⟨rfl,rfl⟩,⟨rfl,rfl⟩,rfl,by omega,by omega⟩
    have hlen:(aoLo v L).length≤1000:=by have:=h.hk;simp [aoLo];omega
    unfold lpV at he
    rw [hw,show (f==0)=false by simpa using hf,cond_false,ck_t (isLV_t (okL_ones h.hL h.hk)),ck_t (by rw [beq_self_eq_true,hcB];rfl)] at he
    unfold okLo at he
    by_cases hk:((L.length * t:Nat):Int)≤f - 1
    · rw [decide_eq_true hk,cond_true,ck_t (ble_t hlen)] at he
      have e1:Vt (1+L.length * t) (listV (aoLo v L)) f=listV (aoLo v L):=if_pos (by omega)
      have e2:Mt (1+L.length * t) (gLp q t v g L) f=okM (foLo t L (f - 1)):=by
        unfold Mt foLo
        rw [if_pos (by omega),show f - ((1+L.length * t:Nat):Int)=f - 1 - ((L.length * t:Nat):Int) by omega]
      rw [e1,e2]
      exact snd_m (n:=20) tLp_ok (noTL_ok _ _) (f:=44) (fn:=Tryz.f44) (by kernel_rfl) hL he
    · rw [decide_eq_false hk,cond_false] at he
      have e1:Vt (1+L.length * t) (listV (aoLo v L)) f=v00:=if_neg (by omega)
      have e2:Mt (1+L.length * t) (gLp q t v g L) f=⟨0,3,(bxLo t v g L (f - 1)).1,sFuel⟩:=by
        unfold Mt gLp
        rw [if_neg (by omega),if_neg hf]
      rw [e1,e2]
      exact SoundM.post cZ_rdle (snd_m (n:=20) tLp_ok (noTL_ok _ _) (f:=44) (fn:=Tryz.f44) (by kernel_rfl) hL he)
noncomputable def pLp (K:ExprR→List BindR→Int→Prop) (V:Int→Val) (M:Int→MR):List (D Pl)→List (D Pl)→Option (Bool×D Pl×List (D Pl))
  | [.obB 50000 [.arr 100000,.int .i64 f,.int .i64 (.ofNat 0),.int .i64 (.ofNat 0),.int .i64 (.ofNat 0),.int .i64 (.ofNat 0),.str []],.obA 100000 ⟨.binds,N⟩],[.ptr 50000 0,.agg cs]=>match exE cs with
    | some e=>some (Go.Proofs.YtlnkjdedeegajaaGreatDoor.cB (K e N f),.agg (cV (V f)),osP N (M f))
    | none=>none
  | [.obB 50000 [.pl ⟨.binds,N⟩ .any,.int .i64 f,.int .i64 (.ofNat 0),.int .i64 (.ofNat 0),.int .i64 (.ofNat 0),.int .i64 (.ofNat 0),.str []]],[.ptr 50000 0,.agg cs]=>match exE cs with
    | some e=>some (Go.Proofs.YtlnkjdedeegajaaGreatDoor.cB (K e N f),.agg (cV (V f)),osP N (M f))
    | none=>none
  | _,_=>none
theorem pLp_ok {e:ExprR} {N:List BindR} {Q:Int→Prop} {V:Int→Val} {M:Int→MR} (h:∀y f,0≤f→f≤20000→Q f→SndM 44 (decH (osZ y N (okM f))) [.ptr 50000 0,.agg (cExpr e)] (.agg (cV (V f))) (decH (osP N (M f)))) :
    ∀os ds b d os',pLp (fun e' N' f=>KB e N e' N' f∧Q f) V M os ds=some (b,d,os')→b=true→SndM 44 (decH os) ds d (decH os'):=by
  intro os ds b d os' hp hb
  unfold pLp at hp
  split at hp
  · rename_i f N' cs
    split at hp
    · rename_i e' he
      simp only [Option.some.injEq,Prod.mk.injEq] at hp
      obtain ⟨h3,rfl,rfl⟩:=hp
      rw [←h3] at hb
      obtain ⟨⟨rfl,rfl,h4,h5⟩,h6⟩:KB e N e' N' f∧Q f:=@of_decide_eq_true _ (Classical.propDecidable _) hb
      rw [exE_eq he]
      exact h true f h4 h5 h6
    · simp at hp
  · rename_i N' f cs
    split at hp
    · rename_i e' he
      simp only [Option.some.injEq,Prod.mk.injEq] at hp
      obtain ⟨h3,rfl,rfl⟩:=hp
      rw [←h3] at hb
      obtain ⟨⟨rfl,rfl,h4,h5⟩,h6⟩:KB e N e' N' f∧Q f:=@of_decide_eq_true _ (Classical.propDecidable _) hb
      rw [exE_eq he]
      exact h false f h4 h5 h6
    · simp at hp
  · simp at hp
def KS (s:Str) (v:Val):Prop:=s=sSum∧v=listV v.l∧okL v.l=true∧small v.l
noncomputable def pCl:List (D Pl)→Option (Bool×D Pl)
  | [.str s,.pl ⟨.vals,[v]⟩ .any]=>some (Go.Proofs.YtlnkjdedeegajaaGreatDoor.cB (KS s v),.tup [.agg (cV (intV (sumI v.l))),dI 0])
  | _=>none
theorem pCl_ok:∀ds b d,pCl ds=some (b,d)→b=true→Snd 56 ds d:=by
  intro ds b d h hb
  unfold pCl at h
  split at h
  · rename_i s v
    simp only [Option.some.injEq,Prod.mk.injEq] at h
    obtain ⟨rfl,rfl⟩:=h
    obtain ⟨rfl,e,h1,h2⟩:KS s v:=@of_decide_eq_true _ (Classical.propDecidable _) hb
    rw [e]
    exact ca_sound _ h1 h2
  · simp at h
noncomputable def tSm (K:ExprR→List BindR→Int→Prop) (V:Int→Val) (M:Int→MR):Eng.Told Pl:=tellM 44 (pLp K V M) (tell 56 pCl tV)
def ckV (v:Val):Bool:=bif v.kind==2 then isIV v else isLV v
def dn (f:Int):Int:=IntKind.i64.wrap (f - 1)
noncomputable def smO (K:ExprR→List BindR→Int→Prop) (V:Int→Val) (G:Int→Int) (os:MR→List (D Pl)) (N:List BindR) (F:ExprR) (p3 pF:PosR) (f:Int):Option (D Pl) :=
  bif f==0 then noFu os f p3 else bif dn f==0 then noFu os (dn f) pF else
    ck_ (Go.Proofs.YtlnkjdedeegajaaGreatDoor.cB (K F N (dn (dn f)))) (ck_ (ckV (etaV (V (dn (dn f))))) (ck_ (Go.Proofs.YtlnkjdedeegajaaGreatDoor.cB (KS sSum (etaV (V (dn (dn f)))))) (ck_ (isIV (intV (sumI (V (dn (dn f))).l))) (some (.env (osP N (okM (G (dn (dn f))))) (.agg (cV (intV (sumI (V (dn (dn f))).l)))))))))
noncomputable def smB (K:ExprR→List BindR→Int→Prop) (P:Int→PosR) (os:MR→List (D Pl)) (N:List BindR) (F:ExprR) (p3 pF:PosR) (f:Int):Option (D Pl) :=
  bif f==0 then noFu os f p3 else bif dn f==0 then noFu os (dn f) pF else
    ck_ (Go.Proofs.YtlnkjdedeegajaaGreatDoor.cB (K F N (dn (dn f)))) (some (.env (osP N ⟨0,3,P (dn (dn f)),sFuel⟩) (.agg cZ)))
theorem eSmO (K:ExprR→List BindR→Int→Prop) (V:Int→Val) (G:Int→Int) (L:List Val) (f:Int) (B:ExprR) (q p p3:PosR):∀(y:Bool) (j:Nat),j < 3 →
    evM (tSm K V fun f=>okM (G f)) noTL noL 20 Tryz.f11 (decH (osZ y (Nj j L) (okM f))) [.ptr 50000 0,.agg (cExpr (sumE (forE (xj j) q p B) p3))]=smO K V G (osZ y (Nj j L)) (Nj j L) (etaE (forE (xj j) q p B)) p3 p f
  | true,0,_=>by kernel_rfl
  | true,1,_=>by kernel_rfl
  | true,2,_=>by kernel_rfl
  | false,0,_=>by kernel_rfl
  | false,1,_=>by kernel_rfl
  | false,2,_=>by kernel_rfl
  | _,_+3,h=>by omega
theorem eSmB (K:ExprR→List BindR→Int→Prop) (V:Int→Val) (P:Int→PosR) (L:List Val) (f:Int) (B:ExprR) (q p p3:PosR):∀(y:Bool) (j:Nat),j < 3 →
    evM (tSm K V fun f=>⟨0,3,P f,sFuel⟩) noTL noL 20 Tryz.f11 (decH (osZ y (Nj j L) (okM f))) [.ptr 50000 0,.agg (cExpr (sumE (forE (xj j) q p B) p3))]=smB K P (osZ y (Nj j L)) (Nj j L) (etaE (forE (xj j) q p B)) p3 p f
  | true,0,_=>by kernel_rfl
  | true,1,_=>by kernel_rfl
  | true,2,_=>by kernel_rfl
  | false,0,_=>by kernel_rfl
  | false,1,_=>by kernel_rfl
  | false,2,_=>by kernel_rfl
  | _,_+3,h=>by omega
def gSm (q p p3:PosR) (t:Nat) (v:Int) (g:Int→PosR) (L:List Val) (f:Int):PosR:=if f=0 then p3 else if f=1 then p else gLp q t v g L (f - 2)
theorem sumI_rep (k:Nat) (v:Int):sumI (List.replicate k (intV v))=k * v:=by
  induction k with
  | zero=>simp [sumI]
  | succ n ih =>
    rw [List.replicate_succ]
    show v+sumI (List.replicate n (intV v))=_
    rw [ih,show ((n+1:Nat):Int)=(n:Int)+1 from by omega,Int.add_mul]
    omega
theorem noFu_of {y:Bool} {N:List BindR} {f:Int} {p:PosR} {ds:List (D Pl)} {H:Obs Pl} {g:FuncId} (h:SndM g H ds (.agg cZ) (decH (osZ y N ⟨f,3,p,sFuel⟩))):SndM g H ds (.agg (cV v00)) (decH (osP N ⟨f,3,p,sFuel⟩)):=by
  have h:=SoundM.post cZ_rdle h
  cases y with
  | true=>exact toP rfl h
  | false=>exact h
theorem sm_sound {j:Nat} {z:Bool} {B:ExprR} {L:List Val} {t:Nat} {v:Int} {g:Int→PosR} (h:LpH j z B L t v g) (hv:0≤v∧v≤1000000) (q p p3:PosR) (y:Bool) (f:Int) (h0:0≤f) (h1:f≤20000) :
    SndM 11 (decH (osZ y (Nj j L) (okM f))) [.ptr 50000 0,.agg (cExpr (sumE (forE (xj j) q p B) p3))] (.agg (cV (Vt (3+L.length * t) (intV (L.length * v)) f))) (decH (osP (Nj j L) (Mt (3+L.length * t) (gSm q p p3 t v g L) f))):=by
  have hk:=h.hk
  have hl:=fun (y:Bool) (f:Int) (a:0≤f) (b:f≤20000)=>lp_sound h q p y f a b
  have hO:TOk (tSm (fun e' N' f=>KB (forE (xj j) q p B) (Nj j L) e' N' f∧((1+L.length * t:Nat):Int)≤f) (fun _=>listV (aoLo v L)) fun f=>okM (f - ((1+L.length * t:Nat):Int))):=by
    refine tellM_ok (pLp_ok (Q:=fun f=>((1+L.length * t:Nat):Int)≤f) fun y f a b hq=>?_) (tell_ok pCl_ok tV_ok)
    have:=hl y f a b
    rwa [show Vt (1+L.length * t) (listV (aoLo v L)) f=listV (aoLo v L) from if_pos hq,show Mt (1+L.length * t) (gLp q t v g L) f=okM (f - ((1+L.length * t:Nat):Int)) from if_pos hq] at this
  have hB:TOk (tSm (fun e' N' f=>KB (forE (xj j) q p B) (Nj j L) e' N' f∧¬ ((1+L.length * t:Nat):Int)≤f) (fun _=>v00) fun f=>⟨0,3,gLp q t v g L f,sFuel⟩):=by
    refine tellM_ok (pLp_ok (Q:=fun f=>¬ ((1+L.length * t:Nat):Int)≤f) fun y f a b hq=>?_) (tell_ok pCl_ok tV_ok)
    have:=hl y f a b
    rwa [show Vt (1+L.length * t) (listV (aoLo v L)) f=v00 from if_neg hq,show Mt (1+L.length * t) (gLp q t v g L) f=⟨0,3,gLp q t v g L f,sFuel⟩ from if_neg hq] at this
  have goO:=fun {os d} (e:_=some (D.env os d))=>snd_m (n:=20) hO (noTL_ok _ _) (f:=11) (fn:=Tryz.f11) (by kernel_rfl) (loops_of (f:=11) (fn:=Tryz.f11) (by kernel_rfl) (loops_0 (by kernel_rfl))) ((eSmO _ _ _ L f B q p p3 y j h.hj).trans e)
  have goB:=fun {os d} (e:_=some (D.env os d))=>snd_m (n:=20) hB (noTL_ok _ _) (f:=11) (fn:=Tryz.f11) (by kernel_rfl) (loops_of (f:=11) (fn:=Tryz.f11) (by kernel_rfl) (loops_0 (by kernel_rfl))) ((eSmB _ _ _ L f B q p p3 y j h.hj).trans e)
  by_cases f0:f=0
  · subst f0
    rw [show Vt (3+L.length * t) (intV (L.length * v)) 0=v00 from if_neg (by omega),show Mt (3+L.length * t) (gSm q p p3 t v g L) 0=⟨0,3,p3,sFuel⟩ from if_neg (by omega)]
    exact noFu_of (goO (os:=osZ y (Nj j L) ⟨0,3,p3,sFuel⟩) (d:=.agg cZ) rfl)
  by_cases f1:f=1
  · subst f1
    rw [show Vt (3+L.length * t) (intV (L.length * v)) 1=v00 from if_neg (by omega),show Mt (3+L.length * t) (gSm q p p3 t v g L) 1=⟨0,3,p,sFuel⟩ from if_neg (by omega)]
    exact noFu_of (goO (os:=osZ y (Nj j L) ⟨0,3,p,sFuel⟩) (d:=.agg cZ) rfl)
  have d1:dn f=f - 1:=wrap_in _ (by omega)
  have d2:dn (f - 1)=f - 2:=(wrap_in _ (by omega)).trans (by omega)
  have b0:(f==0)=false:=by simpa using f0
  have b1:(f - 1==0)=false:=by simp;omega
  by_cases hq:((1+L.length * t:Nat):Int)≤f - 2
  · have c1:Go.Proofs.YtlnkjdedeegajaaGreatDoor.cB (KB (forE (xj j) q p B) (Nj j L) (forE (xj j) q p B) (Nj j L) (f - 2)∧((1+L.length * t:Nat):Int)≤f - 2)=true:=@decide_eq_true _ (Classical.propDecidable _) ⟨⟨rfl,rfl,by omega,by omega⟩,hq⟩
    have oL:okL (aoLo v L)=true:=by
      unfold okL
      rw [Bool.and_eq_true,List.all_eq_true]
      refine ⟨fun x hx=>?_,ble_t (by simp [aoLo];omega)⟩
      rw [List.eq_of_mem_replicate hx]
      rfl
    have c2:Go.Proofs.YtlnkjdedeegajaaGreatDoor.cB (KS sSum (listV (aoLo v L)))=true:=@decide_eq_true _ (Classical.propDecidable _) ⟨rfl,rfl,oL,by show (aoLo v L).length≤100;simp [aoLo];omega,fun x hx=>by
      rw [List.eq_of_mem_replicate hx]
      exact hv⟩
    have c3:ckV (listV (aoLo v L))=true:=by
      show isLV (listV (aoLo v L))=true
      exact isLV_t oL
    have e:=goO (os:=osP (Nj j L) (okM (f - 2 - ((1+L.length * t:Nat):Int)))) (d:=.agg (cV (intV (sumI (aoLo v L))))) (by
      unfold smO
      rw [d1,d2,b0,b1,cond_false,cond_false,etaE_eq,ck_t c1,etaV_eq,ck_t c3,ck_t c2]
      rfl)
    rw [show Vt (3+L.length * t) (intV (L.length * v)) f=intV (L.length * v) from if_pos (by omega),show Mt (3+L.length * t) (gSm q p p3 t v g L) f=okM (f - 2 - ((1+L.length * t:Nat):Int)) from by
      unfold Mt
      rw [if_pos (by omega)]
      congr 1
      omega,←sumI_rep]
    exact e
  · have c1:Go.Proofs.YtlnkjdedeegajaaGreatDoor.cB (KB (forE (xj j) q p B) (Nj j L) (forE (xj j) q p B) (Nj j L) (f - 2)∧¬ ((1+L.length * t:Nat):Int)≤f - 2)=true:=@decide_eq_true _ (Classical.propDecidable _) ⟨⟨rfl,rfl,by omega,by omega⟩,hq⟩
    have e:=goB (os:=osP (Nj j L) ⟨0,3,gLp q t v g L (f - 2),sFuel⟩) (d:=.agg cZ) (by
      unfold smB
      rw [d1,d2,b0,b1,cond_false,cond_false,etaE_eq,ck_t c1])
    rw [show Vt (3+L.length * t) (intV (L.length * v)) f=v00 from if_neg (by omega),show Mt (3+L.length * t) (gSm q p p3 t v g L) f=⟨0,3,gLp q t v g L (f - 2),sFuel⟩ from by
      unfold Mt gSm
      rw [if_neg (by omega),if_neg f0,if_neg f1]]
    exact SoundM.post cZ_rdle e
end Ev
end Go.Proofs.YtlnkjdedeegajaaGreatDoor
