/-
  THE LAW's EXPRESSION, evaluated: three sums, one in the other.
-/
import Derived.Test.YtlnkjdedeegajaaGreatDoorEvQ
namespace Go.Proofs.YtlnkjdedeegajaaGreatDoor
open Go.Eng
set_option maxRecDepth 100000
namespace Ev
theorem eE0 (L:List Val) (f:Int):evM tV noTL noL 20 Tryz.f11 (decH (osN (N3 L) (okM f))) [.ptr 50000 0,.agg (cExpr eB0)] =
    bif f==0 then noFu (osN (N3 L)) f (pAt 60 61) else bif dn f==0 then noFu (osN (N3 L)) (dn f) (pAt 56 57) else bif dn (dn f)==0 then noFu (osN (N3 L)) (dn (dn f)) (pAt 54 55) else
      bif dn (dn (dn f))==0 then noFu (osN (N3 L)) (dn (dn (dn f))) (pAt 58 59) else bif dn (dn (dn (dn f)))==0 then noFu (osN (N3 L)) (dn (dn (dn (dn f)))) (pAt 62 63) else
        some (.env (osN (N3 L) (okM (dn (dn (dn (dn (dn f))))))) (.agg (cV0 1))):=by kernel_rfl
def g0 (f:Int):PosR:=if f=0 then pAt 60 61 else if f=1 then pAt 56 57 else if f=2 then pAt 54 55 else if f=3 then pAt 58 59 else pAt 62 63
theorem cV0_rdle (n:Int):RDle X0.C (.agg (cV0 n)) (.agg (cV (intV n))):=RDle.agg (.cons (RDle.refl _) (.cons (RDle.refl _) (.cons (RDle.refl _) (.cons (RDle.of (.nil _ rfl)) (.cons (RDle.of (.nil _ rfl)) (RDles.refl _))))))
theorem leaf (L:List Val):EvC true eB0 (N3 L) 5 1 g0:=by
  intro f h0 h1
  have go:=fun {os d} (e:_=some (D.env os d))=>snd_m (n:=20) tV_ok (noTL_ok _ _) (f:=11) (fn:=Tryz.f11) (by kernel_rfl) (loops_of (f:=11) (fn:=Tryz.f11) (by kernel_rfl) (loops_0 (by kernel_rfl))) ((eE0 L f).trans e)
  have small:∀p,f≤4→g0 f=p→Vt 5 (intV 1) f=v00∧Mt 5 g0 f=⟨0,3,p,sFuel⟩:=fun p hf hp=>by
    subst hp
    exact ⟨if_neg (by omega),if_neg (by omega)⟩
  by_cases hf:(5:Int)≤f
  · have d1:dn f=f - 1:=wrap_in _ (by omega)
    have d2:dn (f - 1)=f - 2:=(wrap_in _ (by omega)).trans (by omega)
    have d3:dn (f - 2)=f - 3:=(wrap_in _ (by omega)).trans (by omega)
    have d4:dn (f - 3)=f - 4:=(wrap_in _ (by omega)).trans (by omega)
    have d5:dn (f - 4)=f - 5:=(wrap_in _ (by omega)).trans (by omega)
    rw [show Vt 5 (intV 1) f=intV 1 from if_pos hf,show Mt 5 g0 f=okM (f - 5) from if_pos hf]
    refine SoundM.post (cV0_rdle 1) (go ?_)
    rw [d1,d2,d3,d4,d5,show (f==0)=false by simp;omega,show (f - 1==0)=false by simp;omega,show (f - 2==0)=false by simp;omega,show (f - 3==0)=false by simp;omega,show (f - 4==0)=false by simp;omega]
    rfl
  · have hf4:f≤4:=by omega
    rcases (show f=0∨f=1∨f=2∨f=3∨f=4 by omega) with rfl | rfl | rfl | rfl | rfl
    · obtain ⟨e1,e2⟩:=small (pAt 60 61) (by omega) rfl
      rw [e1,e2];exact SoundM.post cZ_rdle (go rfl)
    · obtain ⟨e1,e2⟩:=small (pAt 56 57) (by omega) rfl
      rw [e1,e2];exact SoundM.post cZ_rdle (go rfl)
    · obtain ⟨e1,e2⟩:=small (pAt 54 55) (by omega) rfl
      rw [e1,e2];exact SoundM.post cZ_rdle (go rfl)
    · obtain ⟨e1,e2⟩:=small (pAt 58 59) (by omega) rfl
      rw [e1,e2];exact SoundM.post cZ_rdle (go rfl)
    · obtain ⟨e1,e2⟩:=small (pAt 62 63) (by omega) rfl
      rw [e1,e2];exact SoundM.post cZ_rdle (go rfl)
def ones (k:Nat):List Val:=List.replicate k (intV 1)
theorem ones_mem {k:Nat}:∀x∈ones k,x=intV 1:=fun _ h=>List.eq_of_mem_replicate h
theorem ones_len (k:Nat):(ones k).length=k:=List.length_replicate
def t1 (k:Nat):Nat:=3+k * 5
def t2 (k:Nat):Nat:=3+k * t1 k
def t3 (k:Nat):Nat:=3+k * t2 k
theorem lp1 {k:Nat} (hk:k≤100):LpH 2 true eB0 (ones k) 5 1 g0:=⟨by omega,rfl,ones_mem,by rw [ones_len];exact hk,leaf (ones k)⟩
theorem lvl1 {k:Nat} (hk:k≤39):∃g,EvC false eB1 (N2 (ones k)) (t1 k) (k * 1) g:=by
  refine ⟨gSm (pAt 50 51) (pAt 40 41) (pAt 36 37) 5 1 g0 (ones k),fun f h0 h1=>?_⟩
  have:=sm_sound (lp1 (k:=k) (by omega)) ⟨by omega,by omega⟩ (pAt 50 51) (pAt 40 41) (pAt 36 37) true f h0 h1
  rw [ones_len] at this
  exact this
theorem lvl2 {k:Nat} (hk:k≤39):∃g,EvC false eB2 (N1 (ones k)) (t2 k) (k * (k * 1)) g:=by
  obtain ⟨g,h⟩:=lvl1 hk
  refine ⟨gSm (pAt 32 33) (pAt 22 23) (pAt 18 19) (t1 k) (k * 1) g (ones k),fun f h0 h1=>?_⟩
  have:=sm_sound (j:=1) (z:=false) (B:=eB1) (L:=ones k) ⟨by omega,rfl,ones_mem,by rw [ones_len];omega,h⟩ ⟨by omega,by omega⟩ (pAt 32 33) (pAt 22 23) (pAt 18 19) true f h0 h1
  rw [ones_len] at this
  exact this
theorem lvl3 {k:Nat} (hk:k≤39):∃g:Int→PosR,∀f:Int,0≤f→f≤20000→SndM 11 (decH (osP (N0 (ones k)) (okM f))) [.ptr 50000 0,.agg (cExpr eB3)] (.agg (cV (Vt (t3 k) (intV (k * (k * (k * 1)))) f))) (decH (osP (N0 (ones k)) (Mt (t3 k) g f))):=by
  obtain ⟨g,h⟩:=lvl2 hk
  refine ⟨gSm (pAt 14 15) (pAt 4 5) (pAt 0 1) (t2 k) (k * (k * 1)) g (ones k),fun f h0 h1=>?_⟩
  have hkk:(k:Int) * (k * 1)≤39 * 39:=by
    rw [Int.mul_one]
    exact Int.mul_le_mul (by omega) (by omega) (by omega) (by omega)
  have hkk0:0≤(k:Int) * (k * 1):=Int.mul_nonneg (by omega) (by omega)
  have:=sm_sound (j:=0) (z:=false) (B:=eB2) (L:=ones k) ⟨by omega,rfl,ones_mem,by rw [ones_len];omega,h⟩ ⟨hkk0,by omega⟩ (pAt 14 15) (pAt 4 5) (pAt 0 1) false f h0 h1
  rw [ones_len] at this
  exact this
end Ev
end Go.Proofs.YtlnkjdedeegajaaGreatDoor
