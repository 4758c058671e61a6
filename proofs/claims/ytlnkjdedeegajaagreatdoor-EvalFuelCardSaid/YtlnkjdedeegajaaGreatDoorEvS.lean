/-
  'suretylaw14.EvalFuel' answers true, whatever the number.
-/
import Derived.Test.YtlnkjdedeegajaaGreatDoorEvR
namespace Go.Proofs.YtlnkjdedeegajaaGreatDoor
open Go.Eng
set_option maxRecDepth 100000
namespace Ev
theorem eClB0:ev tell0 noTL 3 10 [.pl (pBinds []) (.nil true)]=some .nilS:=by kernel_rfl
theorem eClB1 (l:List BindR):ev tell0 noTL 3 10 [.pl (pBinds l) (.nil false)]=bif (true&&Nat.ble (((pBinds []).l.length+l.length) * 120) big) then some (.pl (pBinds l) .any) else none:=by kernel_rfl
theorem cloneB_sound (l:List BindR) (k:SK):Snd 10 [.pl (pBinds l) k] (.pl (pBinds l) .any):=by
  refine SoundAt.room (pre:=[]) (post:=[]) fun hroom=>SoundAt.nilOr (pre:=[]) (post:=[]) fun b hb=>?_
  cases b with
  | true =>
    have hl:l=[]:=List.length_eq_zero_iff.1 (hb rfl)
    subst hl
    exact (snd_of (tell0_ok _) (noTL_ok _ _) eClB0).weaken (.nil _ rfl)
  | false =>
    have:Nat.ble (((pBinds []).l.length+l.length) * 120) big=true:=by
      rw [Nat.ble_eq]
      have hr:l.length * 120≤big:=hroom
      simpa using hr
    exact snd_of (tell0_ok _) (noTL_ok _ _) ((eClB1 l).trans (by rw [this];rfl))
def pClB:List (D Pl)→Option (Bool×D Pl)
  | [.pl ⟨.binds,l⟩ _]=>some (true,.pl (pBinds l) .any)
  | _=>none
theorem pClB_ok:∀ds b d,pClB ds=some (b,d)→b=true→Snd 10 ds d:=by
  intro ds b d h hb
  unfold pClB at h
  split at h
  · simp only [Option.some.injEq,Prod.mk.injEq] at h
    obtain ⟨_,rfl⟩:=h
    exact cloneB_sound _ _
  · simp at h
noncomputable def pE (K:ExprR→List BindR→Int→Prop) (V:Int→Val) (M:Int→MR):List (D Pl)→List (D Pl)→Option (Bool×D Pl×List (D Pl))
  | [.obB 50000 [.pl ⟨.binds,N⟩ .any,.int .i64 f,.int .i64 (.ofNat 0),.int .i64 (.ofNat 0),.int .i64 (.ofNat 0),.int .i64 (.ofNat 0),.str []]],[.ptr 50000 0,.agg cs]=>match exE cs with
    | some e=>some (Go.Proofs.YtlnkjdedeegajaaGreatDoor.cB (K e N f),.agg (cV (V f)),osP N (M f))
    | none=>none
  | _,_=>none
theorem pE_ok {e:ExprR} {N:List BindR} {V:Int→Val} {M:Int→MR} (h:∀f,0≤f→f≤20000→SndM 11 (decH (osP N (okM f))) [.ptr 50000 0,.agg (cExpr e)] (.agg (cV (V f))) (decH (osP N (M f)))) :
    ∀os ds b d os',pE (KB e N) V M os ds=some (b,d,os')→b=true→SndM 11 (decH os) ds d (decH os'):=by
  intro os ds b d os' hp hb
  unfold pE at hp
  split at hp
  · rename_i N' f cs
    split at hp
    · rename_i e' he
      simp only [Option.some.injEq,Prod.mk.injEq] at hp
      obtain ⟨h3,rfl,rfl⟩:=hp
      rw [←h3] at hb
      obtain ⟨rfl,rfl,h4,h5⟩:KB e N e' N' f:=@of_decide_eq_true _ (Classical.propDecidable _) hb
      rw [exE_eq he]
      exact h f h4 h5
    · simp at hp
  · simp at hp
def cDgM (m:MR):List (D Pl):=[dI m.c,dI m.p.at',dI m.p.line,dI m.p.col,.str m.w]
noncomputable def tEv (K:ExprR→List BindR→Int→Prop) (V:Int→Val) (M:Int→MR):Eng.Told Pl:=tellM 11 (pE K V M) (tell 10 pClB tell0)
theorem eEv (K:ExprR→List BindR→Int→Prop) (V:Int→Val) (M:Int→MR) (e:ExprR) (N:List BindR):evF (tEv K V M) noTL noL 5 Tryz.f5 [.agg (cExpr e),.pl (pBinds N) .any] =
    ck_ (Go.Proofs.YtlnkjdedeegajaaGreatDoor.cB (K (etaE e) N 20000)) (some (.tup [.agg (cV (V 20000)),.agg (cDgM (M 20000))])):=by kernel_rfl
theorem ev_sound {e:ExprR} {N:List BindR} {V:Int→Val} {M:Int→MR} (h:∀f,0≤f→f≤20000→SndM 11 (decH (osP N (okM f))) [.ptr 50000 0,.agg (cExpr e)] (.agg (cV (V f))) (decH (osP N (M f)))) :
    Snd 5 [.agg (cExpr e),.pl (pBinds N) .any] (.tup [.agg (cV (V 20000)),.agg (cDgM (M 20000))]):=by
  have hc:Go.Proofs.YtlnkjdedeegajaaGreatDoor.cB (KB e N (etaE e) N 20000)=true:=@decide_eq_true _ (Classical.propDecidable _) ⟨etaE_eq e,rfl,by omega,by omega⟩
  exact snd_fn (n:=5) (tellM_ok (pE_ok h) (tell_ok pClB_ok (tell0_ok _))) (noTL_ok _ _) (f:=5) (fn:=Tryz.f5) (by kernel_rfl) (loops_of (f:=5) (fn:=Tryz.f5) (by kernel_rfl) (loops_0 (by kernel_rfl))) ((eEv (KB e N) V M e N).trans (ck_t hc _))
def s1:Str:=[49,32,43,32,50,32,42,32,51]
def s2:Str:=[102,97,108,115,101,32,38,38,32,120]
def s3:Str:=[91,102,111,114,32,118,32,105,110,32,91,49,44,32,50,93,32,58,32,118,32,42,32,50,93]
def x1:ExprR:=nodeE 11 [] [] [litE 2 1 [] (pAt 0 1),nodeE 8 [] [] [litE 2 2 [] (pAt 4 5),litE 2 3 [] (pAt 8 9)] (pAt 6 7)] (pAt 2 3)
def x2:ExprR:=nodeE 19 [] [] [litE 1 0 [] (pAt 0 1),nodeE 2 [120] [] [] (pAt 9 10)] (pAt 6 7)
def x3:ExprR:=nodeE 24 [118] [] [nodeE 22 [] [] [litE 2 1 [] (pAt 11 12),litE 2 2 [] (pAt 14 15)] (pAt 10 11),nodeE 8 [] [] [nodeE 2 [118] [] [] (pAt 19 20),litE 2 2 [] (pAt 23 24)] (pAt 21 22)] (pAt 0 1)
theorem par1:parseV s1=⟨x1,0,p00⟩:=by kernel_rfl
theorem par2:parseV s2=⟨x2,0,p00⟩:=by kernel_rfl
theorem par3:parseV s3=⟨x3,0,p00⟩:=by kernel_rfl
theorem parF:parseV sEF=⟨eB3,0,p00⟩:=by kernel_rfl
def aPa (e:ExprR):D Pl:=.tup [.agg (cExpr e),.agg (cDg 0 p00)]
def pPa:List (D Pl)→Option (Bool×D Pl)
  | [.str s]=>bif Nat.beq s.length 9 then some (s==s1,aPa x1) else bif Nat.beq s.length 10 then some (s==s2,aPa x2) else bif Nat.beq s.length 25 then some (s==s3,aPa x3) else some (s==sEF,aPa eB3)
  | _=>none
theorem pPa_ok:∀ds b d,pPa ds=some (b,d)→b=true→Snd 4 ds d:=by
  intro ds b d h hb
  have key:∀(s s':Str) (e:ExprR),parseV s'=⟨e,0,p00⟩→some (s==s',aPa e)=some (b,d)→Snd 4 [.str s] d:=by
    intro s s' e he h
    simp only [Option.some.injEq,Prod.mk.injEq] at h
    obtain ⟨rfl,rfl⟩:=h
    rw [beq_iff_eq] at hb
    subst hb
    have:=parseV_sound s
    rw [he] at this
    exact this
  unfold pPa at h
  split at h
  · rename_i s
    cases h1:Nat.beq s.length 9 with
    | true=>rw [h1,cond_true] at h;exact key _ _ _ par1 h
    | false =>
      cases h2:Nat.beq s.length 10 with
      | true=>rw [h1,h2,cond_true,cond_false] at h;exact key _ _ _ par2 h
      | false =>
        cases h3:Nat.beq s.length 25 with
        | true=>rw [h1,h2,h3,cond_true,cond_false,cond_false] at h;exact key _ _ _ par3 h
        | false=>rw [h1,h2,h3,cond_false,cond_false,cond_false] at h;exact key _ _ _ parF h
  · simp at h
def tAw:Eng.Told Pl:=tell 41 pLi (tell 4 pPa (tell 10 pClB (tell 46 (p1 fun v=>(true,.agg (cV v))) tell0)))
theorem tAw_ok:TOk tAw:=tell_ok pLi_ok (tell_ok pPa_ok (tell_ok pClB_ok (tell_ok (p1_ok fun v _=>copy_sound v) (tell0_ok _))))
def nX:List BindR:=[⟨[120],⟨6,0,[],[],[],0,0,false⟩⟩]
def lX:List Val:=[intV 1,intV 2]
theorem bX0:evZ tV noTL noL 20 (loopAt 44 0) FLo (sLo nX x3 lX (okM 19996) [] 0)=some (.normal,sLo nX x3 lX (okM 19993) [intV 2] 1):=by kernel_rfl
theorem bX1:evZ tV noTL noL 20 (loopAt 44 0) FLo (sLo nX x3 lX (okM 19993) [intV 2] 1)=some (.normal,sLo nX x3 lX (okM 19990) [intV 2,intV 4] 2):=by kernel_rfl
theorem bX2:evZ tV noTL noL 20 (loopAt 44 0) FLo (sLo nX x3 lX (okM 19990) [intV 2,intV 4] 2)=some (.exit 1,sLo nX x3 lX (okM 19990) [intV 2,intV 4] 2):=by kernel_rfl
def CX (N:List BindR) (F:ExprR) (L:List Val) (f:Int):Prop:=N=nX∧F=x3∧L=lX∧f=19996
noncomputable def LSX:St Pl→Option (Bool×LR Pl):=LSLo CX (fun _ _=>true) (fun _ _=>19990) (fun _=>[intV 2,intV 4]) (fun _ _=>(p00,[],0))
theorem LSX_ok:SOk X0 (loopAt 44 0) LSX:=by
  refine LSLo_gen fun N F L f hC=>?_
  obtain ⟨rfl,rfl,rfl,rfl⟩:=hC
  have h:=(Rnd.step (goes_ofZ tV_ok (noTL_ok _ _) (noLoops idsLo.2.2) bX0) (.step (goes_ofZ tV_ok (noTL_ok _ _) (noLoops idsLo.2.2) bX1) (.stop (by simp) (goes_ofZ tV_ok (noTL_ok _ _) (noLoops idsLo.2.2) bX2)))).goes
  exact h.weak (weakX _ _ _ _ _ _)
noncomputable def TLX:LoopsT Pl:=tellL 44 (atL 15 LSX noL) noTL
theorem TLX_ok:LOk TLX:=tellL_ok (fun _ code h1 h2=>loops_of (f:=44) h1 (loops_1 idsLo.1 (atL_ok (fun _=>LSX_ok) fun h=>absurd idsLo.2.1 h)) code h2) (noTL_ok _ _)
def cD0:List (D Pl):=[dI 0,dI 0,dI 0,dI 0,.str []]
theorem eOf1:ev tAw TLX 25 12 [.str s1]=some (.tup [.agg (cV0 7),.agg cD0]):=by kernel_rfl
theorem eOf3:ev tAw TLX 25 12 [.str s3]=ck_ (((2:Int)==(2:Int))&&Go.Proofs.YtlnkjdedeegajaaGreatDoor.cB ((lX=lX∧nX=nX)∧CX nX x3 lX 19996)) (some (.tup [.agg (cV (listV [intV 2,intV 4])),.agg cD0])):=by kernel_rfl
theorem of1_sound:Snd 12 [.str s1] (.tup [.agg (cV0 7),.agg cD0]):=snd_of tAw_ok TLX_ok eOf1
theorem of3_sound:Snd 12 [.str s3] (.tup [.agg (cV (listV [intV 2,intV 4])),.agg cD0]):=by
  refine snd_of tAw_ok TLX_ok (eOf3.trans (ck_t ?_ _))
  have hc:Go.Proofs.YtlnkjdedeegajaaGreatDoor.cB ((lX=lX∧nX=nX)∧CX nX x3 lX 19996)=true:=@decide_eq_true _ (Classical.propDecidable _) ⟨⟨rfl,rfl⟩,rfl,rfl,rfl,rfl⟩
  rw [hc]
  rfl
end Ev
end Go.Proofs.YtlnkjdedeegajaaGreatDoor
