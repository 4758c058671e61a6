/-
  THE SIGN THAT STANDS THERE, by the document.
-/
import Derived.Test.YtlnkjdedeegajaaGreatDoorPartsD
namespace Go.Proofs.YtlnkjdedeegajaaGreatDoor
open Go.Eng
set_option maxRecDepth 100000
def oneK (s:Str) (p:Nat):Str→Option (D Pl)
  | []=>some (.str [])
  | c::r=>ix_ p s.length (bif (Int.ofNat c.toNat)==byt s p then slK s p (w64 ((p:Int)+1)) (fun y=>some (.str y)) else oneK s p r)
def tw (t:Str):List Str→Bool→Bool
  | [],b=>b
  | x::r,b=>tw t r (bif b then true else t==x)
def twos:List Str:=[[33,61],[60,61],[62,61],[38,38],[124,124],[61,62]]
theorem eSgn (s:Str) (p:Nat):ev tell0 noTL 1 22 [.str s,dI p] =
    bif decide (w64 ((p:Int)+1) < (s.length:Int)) then slK s p (w64 ((p:Int)+2)) fun t=>bif tw t twos (t==[61,61]) then some (.str t) else oneK s p onesS else oneK s p onesS:=by kernel_rfl
def signS (s:Str) (p:Nat):Str:=(signO s p).t.s
theorem sl2_eq {s:Str} {p:Nat} (h:p+1 < s.length):sl s p 2=[s.getD p 0,s.getD (p+1) 0]:=by
  unfold sl
  rw [List.drop_eq_getElem_cons (by omega),List.take_succ_cons,List.drop_eq_getElem_cons h,List.take_succ_cons,List.take_zero,List.getD_eq_getElem?_getD,List.getElem?_eq_getElem (by omega),List.getD_eq_getElem?_getD,List.getElem?_eq_getElem h]
  rfl
theorem sl2_two {s:Str} {p:Nat} (h:p+1 < s.length) (a b:UInt8):(sl s p 2==[a,b])=two s p (Int.ofNat a.toNat) (Int.ofNat b.toNat):=by
  rw [sl2_eq h]
  unfold two byt
  have e:∀x y:UInt8,(Int.ofNat x.toNat==Int.ofNat y.toNat)=(x==y):=by
    intro x y
    by_cases hxy:x=y
    · subst hxy;simp
    · rw [beq_eq_false_iff_ne.2 hxy,beq_eq_false_iff_ne.2]
      intro hh
      exact hxy (UInt8.toNat_inj.1 (by injection hh))
  rw [e,e,Bool.eq_iff_iff]
  simp
theorem oneK_eq {s:Str} {p:Nat} (hp:p < s.length) (hl:s.length≤big):∀l:Str,oneK s p l=some (.str (bif l.any (fun x=>(x.toNat:Int)==byt s p) then sl s p 1 else []))
  | []=>rfl
  | c::r=>by
    have w1:w64 ((p:Int)+1)=((p+1:Nat):Int):=wrap_nat (by omega)
    simp only [oneK,List.any_cons]
    rw [ix_t hp,w1,slK_t (by omega) (by omega),show p+1 - p=1 by omega,oneK_eq hp hl r]
    show (bif ((c.toNat:Int)==byt s p) then _ else _)=_
    cases (c.toNat:Int)==byt s p<;>rfl
theorem sign_sound (s:Str) (p:Nat) (hp:p < s.length):Snd 22 [.str s,dI p] (.str (signS s p)):=by
  refine SoundAt.rooms fun hroom=>snd_of (tell0_ok _) (noTL_ok _ _) ((eSgn s p).trans ?_)
  have hl:s.length≤big:=hroom (.str s) (by simp)
  have hbig:big=140737488355328:=rfl
  have w1:w64 ((p:Int)+1)=((p+1:Nat):Int):=wrap_nat (by omega)
  have w2:w64 ((p:Int)+2)=((p+2:Nat):Int):=(wrap_in ((p:Int)+2) (by omega)).trans (by omega)
  have h1s:∀h:twoS s p=[],oneK s p onesS=some (.str (signS s p)):=by
    intro h
    rw [oneK_eq hp hl]
    unfold signS signO
    rw [h]
    show some (D.str (bif isOne (byt s p) then _ else _))=some (.str (TOut.t (bif isOne (byt s p) then _ else _)).s)
    cases isOne (byt s p)<;>rfl
  rw [w1]
  by_cases h:p+1 < s.length
  · rw [decide_eq_true (by omega),cond_true,w2,slK_t (by omega) (by omega),show p+2 - p=2 by omega]
    have hw:tw (sl s p 2) twos (sl s p 2==[61,61])=!(twoS s p==[]):=by
      simp only [tw,twos,sl2_two h]
      show (bif _ then true else two s p 61 62)=_
      unfold twoS
      show (bif (bif (bif (bif (bif (bif two s p 61 61 then true else two s p 33 61) then true else two s p 60 61) then true else two s p 62 61) then true else two s p 38 38) then true else two s p 124 124) then true else two s p 61 62)=_
      cases two s p 61 61<;>cases two s p 33 61<;>cases two s p 60 61<;>cases two s p 62 61<;>cases two s p 38 38<;>cases two s p 124 124<;>cases two s p 61 62<;>rfl
    rw [hw]
    rcases twoS_cases s p with ⟨h0,_⟩ | ⟨a,b,h0,h2,_⟩
    · rw [h0]
      exact h1s h0
    · rw [h0]
      show some (D.str (sl s p 2))=_
      have h3:(sl s p 2==[a,b])=true:=by rw [sl2_two h];exact h2
      rw [beq_iff_eq] at h3
      rw [h3]
      unfold signS signO
      rw [h0]
  · rw [decide_eq_false (by omega),cond_false]
    refine h1s ?_
    have hb:=byt_out h
    unfold twoS two
    rw [hb]
    cases byt s p==61<;>cases byt s p==33<;>cases byt s p==60<;>cases byt s p==62<;>cases byt s p==38<;>cases byt s p==124<;>rfl
def pSgn:List (D Pl)→Option (Bool×D Pl)
  | [.str s,.int .i64 a]=>some (decide (0≤a)&&Nat.blt a.toNat s.length,.str (signS s a.toNat))
  | _=>none
theorem pSgn_ok:∀ds b d,pSgn ds=some (b,d)→b=true→Snd 22 ds d:=by
  intro ds b d h hb
  unfold pSgn at h
  split at h
  · simp only [Option.some.injEq,Prod.mk.injEq] at h
    obtain ⟨rfl,rfl⟩:=h
    rw [Bool.and_eq_true,Nat.blt_eq] at hb
    obtain ⟨a,rfl⟩:=Int.eq_ofNat_of_zero_le (of_decide_eq_true hb.1)
    exact sign_sound _ _ hb.2
  · simp at h
end Go.Proofs.YtlnkjdedeegajaaGreatDoor
