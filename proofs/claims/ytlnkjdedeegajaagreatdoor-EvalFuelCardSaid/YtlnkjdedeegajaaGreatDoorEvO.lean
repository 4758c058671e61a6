/-
  THE MACHINE's LOOP OVER A LIST: what it makes, and how much fuel that takes.
-/
import Derived.Test.YtlnkjdedeegajaaGreatDoorEvN
namespace Go.Proofs.YtlnkjdedeegajaaGreatDoor
open Go.Eng
set_option maxRecDepth 100000
namespace Ev
def sFuel:Str:=[102,117,101,108]
def sHdN (N:List BindR) (F:ExprR) (L V:List Val) (f:Int) (k:Int):St Pl:=mkS 186 [(0,.ptr 50000 0),(3,.ptr 3 0),(4,.ptr 4 0),(5,.ptr 5 0),(6,dI 4),(7,dI 2),(8,.ptr 54 0),(9,.nilS),(10,.arr 60000000),(60,.pl (pVals L) .any),(61,dI k),(62,dI 0)]
  [(54,.box false cTo),(52,.map false ⟨.map .str .unit,[]⟩),(5,.box false (cV (listV V))),(50000,.box false (cMs (.arr 60000000) (okM f))),(60000000,.arr false (pBinds N)),(4,.box false cZ),(3,.box false (cExpr F))]
def sHdP (N:List BindR) (F:ExprR) (L V:List Val) (f:Int) (k:Int):St Pl:=mkS 186 [(0,.ptr 50000 0),(3,.ptr 3 0),(4,.ptr 4 0),(5,.ptr 5 0),(6,dI 4),(7,dI 2),(8,.ptr 54 0),(9,.nilS),(10,.pl (pBinds N) .any),(60,.pl (pVals L) .any),(61,dI k),(62,dI 0)]
  [(54,.box false cTo),(52,.map false ⟨.map .str .unit,[]⟩),(5,.box false (cV (listV V))),(50000,.box false (cMs (.pl (pBinds N) .any) (okM f))),(4,.box false cZ),(3,.box false (cExpr F))]
theorem weakN_eq (N:List BindR) (F:ExprR) (L:List Val) (f:Int):fixS X0.C FLo (sHdN N F L L f L.length)=sLo N F L (okM f) [] 0:=by kernel_rfl
theorem weakP_eq (N:List BindR) (F:ExprR) (L:List Val) (f:Int):fixS X0.C FLo (sHdP N F L L f L.length)=sLo N F L (okM f) [] 0:=by kernel_rfl
theorem weakN (N:List BindR) (F:ExprR) (L:List Val) (f:Int):Weak X0 (sHdN N F L L f L.length) (sLo N F L (okM f) [] 0):=weakN_eq N F L f ▸ Weak.fix xok FLo _
theorem weakP (N:List BindR) (F:ExprR) (L:List Val) (f:Int):Weak X0 (sHdP N F L L f L.length) (sLo N F L (okM f) [] 0):=weakP_eq N F L f ▸ Weak.fix xok FLo _
def rSl:List (D Pl)→Option (D Pl×List Val×Int)
  | [.ptr 50000 0,.ptr 3 0,.ptr 4 0,.ptr 5 0,.int .i64 (.ofNat 4),.int .i64 (.ofNat 2),.ptr 54 0,.nilS,nm,.pl ⟨.vals,L⟩ .any,.int .i64 k,.int .i64 (.ofNat 0)]=>some (nm,L,k)
  | _=>none
theorem rSl_eq {l:List (D Pl)} {nm:D Pl} {L:List Val} {k:Int} (h:rSl l=some (nm,L,k)):l=[.ptr 50000 0,.ptr 3 0,.ptr 4 0,.ptr 5 0,dI 4,dI 2,.ptr 54 0,.nilS,nm,.pl (pVals L) .any,dI k,dI 0]:=by
  unfold rSl at h
  split at h
  · simp only [Option.some.injEq,Prod.mk.injEq] at h;obtain ⟨rfl,rfl,rfl⟩:=h;rfl
  · simp at h
def rTo:List (D Pl)→Bool
  | [.nilS,.nilS,.mp 52,.bool false,.bool false]=>true
  | _=>false
theorem rTo_eq {l:List (D Pl)} (h:rTo l=true):l=cTo:=by
  unfold rTo at h
  split at h
  · rfl
  · simp at h
def rZ:List (D Pl)→Bool
  | [.int .i64 (.ofNat 0),.int .i64 (.ofNat 0),.str [],.nilS,.nilS,.int .i64 (.ofNat 0),.int .i64 (.ofNat 0),.bool false]=>true
  | _=>false
theorem rZ_eq {l:List (D Pl)} (h:rZ l=true):l=cZ:=by
  unfold rZ at h
  split at h
  · rfl
  · simp at h
def rVs:List (D Pl)→Option (List Val)
  | [.int .i64 (.ofNat 4),.int .i64 (.ofNat 0),.str [],.pl ⟨.vals,L⟩ .any,.pl ⟨.strs,[]⟩ .any,.int .i64 (.ofNat 0),.int .i64 (.ofNat 0),.bool false]=>some L
  | _=>none
theorem rVs_eq {l:List (D Pl)} {L:List Val} (h:rVs l=some L):l=cV (listV L):=by
  unfold rVs at h
  split at h
  · simp only [Option.some.injEq] at h;subst h;rfl
  · simp at h
def rMs:List (D Pl)→Option (D Pl×Int)
  | [nm,.int .i64 f,.int .i64 (.ofNat 0),.int .i64 (.ofNat 0),.int .i64 (.ofNat 0),.int .i64 (.ofNat 0),.str []]=>some (nm,f)
  | _=>none
theorem rMs_eq {l:List (D Pl)} {nm:D Pl} {f:Int} (h:rMs l=some (nm,f)):l=cMs nm (okM f):=by
  unfold rMs at h
  split at h
  · simp only [Option.some.injEq,Prod.mk.injEq] at h;obtain ⟨rfl,rfl⟩:=h;rfl
  · simp at h
def rObN:Obs Pl→Option (List (D Pl)×List (D Pl)×List (D Pl)×List BindR×List (D Pl)×List (D Pl))
  | [(54,.box false c1),(52,.map false ⟨.map .str .unit,[]⟩),(5,.box false c2),(50000,.box false c3),(60000000,.arr false ⟨.binds,N⟩),(4,.box false c4),(3,.box false c5)]=>some (c1,c2,c3,N,c4,c5)
  | _=>none
theorem rObN_eq {h:Obs Pl} {c1 c2 c3 c4 c5:List (D Pl)} {N:List BindR} (e:rObN h=some (c1,c2,c3,N,c4,c5)):h=[(54,.box false c1),(52,.map false ⟨.map .str .unit,[]⟩),(5,.box false c2),(50000,.box false c3),(60000000,.arr false (pBinds N)),(4,.box false c4),(3,.box false c5)]:=by
  unfold rObN at e
  split at e
  · simp only [Option.some.injEq,Prod.mk.injEq] at e;obtain ⟨rfl,rfl,rfl,rfl,rfl,rfl⟩:=e;rfl
  · simp at e
def rObP:Obs Pl→Option (List (D Pl)×List (D Pl)×List (D Pl)×List (D Pl)×List (D Pl))
  | [(54,.box false c1),(52,.map false ⟨.map .str .unit,[]⟩),(5,.box false c2),(50000,.box false c3),(4,.box false c4),(3,.box false c5)]=>some (c1,c2,c3,c4,c5)
  | _=>none
theorem rObP_eq {h:Obs Pl} {c1 c2 c3 c4 c5:List (D Pl)} (e:rObP h=some (c1,c2,c3,c4,c5)):h=[(54,.box false c1),(52,.map false ⟨.map .str .unit,[]⟩),(5,.box false c2),(50000,.box false c3),(4,.box false c4),(3,.box false c5)]:=by
  unfold rObP at e
  split at e
  · simp only [Option.some.injEq,Prod.mk.injEq] at e;obtain ⟨rfl,rfl,rfl,rfl,rfl⟩:=e;rfl
  · simp at e
def isA6:D Pl→Bool
  | .arr 60000000=>true
  | _=>false
theorem isA6_eq {d:D Pl} (h:isA6 d=true):d=.arr 60000000:=by
  unfold isA6 at h
  split at h
  · rfl
  · simp at h
def isPB:D Pl→Option (List BindR)
  | .pl ⟨.binds,N⟩ .any=>some N
  | _=>none
theorem isPB_eq {d:D Pl} {N:List BindR} (h:isPB d=some N):d=.pl (pBinds N) .any:=by
  unfold isPB at h
  split at h
  · simp only [Option.some.injEq] at h;subst h;rfl
  · simp at h
def sLx (N:List BindR) (F:ExprR) (L:List Val) (m:MR) (acc:List Val) (i:Int):St Pl:=mkS 186 [(0,.ptr 50000 0),(3,.ptr 3 0),(4,.ptr 4 0),(5,.ptr 5 0),(6,dI 4),(7,dI 2),(8,.ptr 54 0),(9,.pl (pVals acc) .any),(10,.pl (pBinds N) .any),(60,.pl (pVals L) .any),(61,dI L.length),(62,dI i)]
  [(54,.box false cTo),(52,.map false ⟨.map .str .unit,[]⟩),(5,.box false (cV (listV L))),(50000,.box false (cMs .bad m)),(4,.box false cZ),(3,.box false (cExpr F))]
def FLx:Fix Pl:={ calm:=[131],keep:=[0,3,4,5,6,7,8,9,10,60,61,62],lose:=[131] }
theorem weakX_eq (N:List BindR) (F:ExprR) (L:List Val) (m:MR) (acc:List Val) (i:Int):fixS X0.C FLx (sLo N F L m acc i)=sLx N F L m acc i:=by kernel_rfl
theorem weakX (N:List BindR) (F:ExprR) (L:List Val) (m:MR) (acc:List Val) (i:Int):Weak X0 (sLo N F L m acc i) (sLx N F L m acc i):=weakX_eq N F L m acc i ▸ Weak.fix xok FLx _
section
variable (C:List BindR→ExprR→List Val→Int→Prop) (OK:List Val→Int→Bool) (FO:List Val→Int→Int) (AO:List Val→List Val) (BX:List Val→Int→PosR×List Val×Int)
def outLo (N:List BindR) (F:ExprR) (L:List Val) (f:Int):LR Pl:=.ite (OK L f) (.leaf (.exit 1) (sLx N F L (okM (FO L f)) (AO L) L.length)) (.leaf (.exit 1) (sLx N F L ⟨0,3,(BX L f).1,sFuel⟩ (BX L f).2.1 (BX L f).2.2))
noncomputable def LSn (S:St Pl):Option (Bool×LR Pl):=match seenS 186 [0,3,4,5,6,7,8,9,10,60,61,62] S with
  | some (sl,hs)=>(match rSl sl,rObN hs with
    | some (nm,L,k),some (c1,c2,c3,N,c4,c5)=>(match rVs c2,rMs c3,exE c5 with
      | some L',some (nm',f),some F=>bif (rTo c1&&rZ c4)&&(isA6 nm&&isA6 nm') then some (k==(L.length:Int)&&Go.Proofs.YtlnkjdedeegajaaGreatDoor.cB ((L'=L∧N=N)∧C N F L f),outLo OK FO AO BX N F L f) else none
      | _,_,_=>none)
    | _,_=>none)
  | none=>none
noncomputable def LSp (S:St Pl):Option (Bool×LR Pl):=match seenS 186 [0,3,4,5,6,7,8,9,10,60,61,62] S with
  | some (sl,hs)=>(match rSl sl,rObP hs with
    | some (nm,L,k),some (c1,c2,c3,c4,c5)=>(match rVs c2,rMs c3,exE c5 with
      | some L',some (nm',f),some F=>(match isPB nm,isPB nm' with
        | some N,some N'=>bif (rTo c1&&rZ c4) then some (k==(L.length:Int)&&Go.Proofs.YtlnkjdedeegajaaGreatDoor.cB ((L'=L∧N'=N)∧C N F L f),outLo OK FO AO BX N F L f) else none
        | _,_=>none)
      | _,_,_=>none)
    | _,_=>none)
  | none=>none
noncomputable def LSLo (S:St Pl):Option (Bool×LR Pl):=match LSn C OK FO AO BX S with
  | some r=>some r
  | none=>LSp C OK FO AO BX S
end
def Vt (t:Nat) (v:Val) (f:Int):Val:=if (t:Int)≤f then v else v00
def Mt (t:Nat) (g:Int→PosR) (f:Int):MR:=if (t:Int)≤f then okM (f - t) else ⟨0,3,g f,sFuel⟩
def EvC (z:Bool) (e:ExprR) (N:List BindR) (t:Nat) (v:Int) (g:Int→PosR):Prop :=
  ∀f:Int,0≤f→f≤20000→SndM 11 (decH (osN N (okM f))) [.ptr 50000 0,.agg (cExpr e)] (.agg (cV (Vt t (intV v) f))) (decH (osZ z N (Mt t g f)))
def KB (e:ExprR) (N:List BindR) (e':ExprR) (N':List BindR) (f:Int):Prop:=e'=e∧N'=N∧0≤f∧f≤20000
theorem pEv_ok {z:Bool} {e:ExprR} {N:List BindR} {t:Nat} {v:Int} {g:Int→PosR} (h:EvC z e N t v g):TOk (tLo z (KB e N) (Vt t (intV v)) (Mt t g)):=by
  refine tellM_ok (fun os ds b d os' hp hb=>?_) tV_ok
  unfold pEv at hp
  split at hp
  · rename_i f N' cs
    split at hp
    · rename_i e' he
      cases h2:e'.op==2 with
      | true=>rw [h2] at hp;simp at hp
      | false =>
        rw [h2,cond_false] at hp
        simp only [Option.some.injEq,Prod.mk.injEq] at hp
        obtain ⟨h3,rfl,rfl⟩:=hp
        rw [←h3] at hb
        obtain ⟨rfl,rfl,h4,h5⟩:KB e N e' N' f:=@of_decide_eq_true _ (Classical.propDecidable _) hb
        rw [exE_eq he]
        exact h f h4 h5
    · simp at hp
  · simp at hp
end Ev
end Go.Proofs.YtlnkjdedeegajaaGreatDoor
