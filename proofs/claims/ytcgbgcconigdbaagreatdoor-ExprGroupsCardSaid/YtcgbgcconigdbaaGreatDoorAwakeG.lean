/-
 THE DOCUMENT's EXAMPLES of trees come to true.
-/
import Derived.Test.YtcgbgcconigdbaaGreatDoorSameN
namespace Go.Proofs.YtcgbgcconigdbaaGreatDoor.Rd
open Go.Eng
set_option maxRecDepth 100000
theorem accD_noP {D D':ExprR→Int} (h:∀e,D (noP e)=D' e) (l:List ExprR):∀i,i≤l.length→accD D (noPs l) i=accD D' l i
 | 0,_=>rfl
 | i+1,hi=>by
  have hg:(noPs l).getD i default=noP (l.getD i default):=by
   rw [noPs_map,List.getD_eq_getElem?_getD,List.getD_eq_getElem?_getD,List.getElem?_map,List.getElem?_eq_getElem (show i < l.length by omega)]
   rfl
  simp only [accD]
  rw [hg,h,accD_noP h l i (by omega)]
theorem dpth_noP:∀n e,dpth n (noP e)=dpth n e
 | 0,_=>rfl
 | n+1,e=>by
  show IntKind.i64.wrap (accD (dpth n) (noP e).l (noP e).l.length+1)=IntKind.i64.wrap (accD (dpth n) e.l e.l.length+1)
  rw [noP_eq]
  simp only
  rw [show (noPs e.l).length=e.l.length by rw [noPs_map,List.length_map],accD_noP (dpth_noP n) e.l _ (Nat.le_refl _)]
theorem deepE_noP (e:ExprR):deepE (noP e)=deepE e:=by
 unfold deepE
 rw [esz_noP,dpth_noP]
theorem deepE_same {a b:ExprR} (h:noP a=noP b):deepE a=deepE b:=by rw [←deepE_noP a,h,deepE_noP]
theorem parse_eqv {s:Str} {w:WR} (h:parseM W2 s=some w):∃e,parseP WP2 s=some (e,w.c,w.p)∧(w.c=0→noP e=noP w.e):=by
 unfold parseM at h
 cases hw:W2 s with
 | none=>rw [hw] at h;cases h
 | some x =>
  rw [hw] at h
  simp only [Go.Proofs.YtcgbgcconigdbaaGreatDoor.thn] at h
  obtain ⟨e,q,hq⟩:=Eqv.W2_eqv s x hw
  unfold parseP
  rw [q]
  simp only
  cases c1:x.c==0 with
  | false =>
   rw [c1] at h
   obtain rfl:=Option.some.inj h
   exact ⟨e00,rfl,fun h=>by
    have h:x.c=0:=h
    rw [h] at c1;cases c1⟩
  | true =>
   have hc:x.c=0:=beq_iff_eq.1 c1
   rw [c1] at h
   simp only [cond_true] at h ⊢
   rw [deepE_same (hq hc)]
   cases c2:decide (deepE x.e > 24) with
   | true =>
    rw [c2] at h
    simp only [cond_true] at h ⊢
    cases c3:Nat.blt 0 (allM s).l.length with
    | false=>rw [c3] at h;cases h
    | true =>
     rw [c3] at h
     obtain rfl:=Option.some.inj h
     exact ⟨e00,rfl,fun h=>absurd h (by show (12:Int)≠0;decide)⟩
   | false =>
    rw [c2] at h
    obtain rfl:=Option.some.inj h
    refine ⟨e,?_,hq⟩
    rw [hc]
    rw [cond_false]
def PP:Whl:=parseP WP2
theorem PP_snd:SndPa PP:=pa_sound WP2_ok.snd
theorem PP_tot (s:Str):okW (PP s)=true:=by
 obtain ⟨w,hw⟩:=parse_tot s
 obtain ⟨e,q,_⟩:=parse_eqv hw
 unfold PP
 rw [q]
 rfl
def brk:Nat→Str→Str
 | 0,s=>s
 | k+1,s=>([40]:Str)++brk k s++[10,41]
theorem brk_len (s:Str):∀k,(brk k s).length=s.length+3 * k
 | 0=>rfl
 | k+1=>by
  simp only [brk,List.length_append,brk_len s k,List.length_cons,List.length_nil]
  omega
theorem brk_W2 {s:Str} {w:WR} (h:W2 s=some w) (hc:w.c=0):∀k,s.length+3 * k≤3100→∃w',W2 (brk k s)=some w'∧w'.c=0∧noP w'.e=noP w.e
 | 0,_=>⟨w,h,hc,rfl⟩
 | k+1,hk=>by
  obtain ⟨w1,h1,h2,h3⟩:=brk_W2 h hc k (by omega)
  obtain ⟨e,h4,h5⟩:=W2_grp (by rw [brk_len];omega) h1 h2
  exact ⟨⟨e,0,Go.Proofs.YtcgbgcconigdbaaGreatDoor.p00⟩,h4,rfl,h5.trans h3⟩
theorem brk_PP {s:Str} {e:ExprR} {p:PosR} (hs:s.length≤3000) (h:PP s=some (e,0,p)) (k:Nat) (hk:k≤8):∃e' p',PP (brk k s)=some (e',0,p')∧noP e=noP e'∧Bare e:=by
 obtain ⟨w,hw⟩:=W2_tot s
 obtain ⟨e1,q1,n1⟩:=Eqv.W2_eqv s w hw
 unfold PP parseP at h
 rw [q1] at h
 simp only at h
 cases c1:w.c==0 with
 | false =>
  rw [c1] at h
  simp only [cond_false,Option.some.injEq,Prod.mk.injEq] at h
  rw [h.2.1] at c1;cases c1
 | true =>
  have hc:w.c=0:=beq_iff_eq.1 c1
  rw [c1] at h
  simp only [cond_true] at h
  cases c2:decide (deepE e1 > 24) with
  | true =>
   rw [c2] at h
   simp only [cond_true] at h
   cases c3:Nat.blt 0 (allM s).l.length with
   | false=>rw [c3] at h;cases h
   | true =>
    rw [c3] at h
    simp only [cond_true,Option.some.injEq,Prod.mk.injEq] at h
    exact absurd h.2.1 (by decide)
  | false =>
   rw [c2] at h
   simp only [cond_false,Option.some.injEq,Prod.mk.injEq] at h
   obtain ⟨rfl,-,-⟩:=h
   obtain ⟨w',h1,h2,h3⟩:=brk_W2 hw hc k (by omega)
   obtain ⟨e2,q2,n2⟩:=Eqv.W2_eqv _ w' h1
   have hn:noP e1=noP e2:=by rw [n1 hc,n2 h2,h3]
   rw [hc] at q1
   refine ⟨e2,w'.p,?_,hn,WP2_ok.bare _ _ _ q1⟩
   unfold PP parseP
   rw [q2]
   simp only
   rw [show (w'.c==0)=true from beq_iff_eq.2 h2,←deepE_same hn,c2]
   rfl
end Go.Proofs.YtcgbgcconigdbaaGreatDoor.Rd
namespace Go.Proofs.YtcgbgcconigdbaaGreatDoor.Rd
open Go.Eng
set_option maxRecDepth 100000
def pPa (V:Whl):List (D Pl)→Option (Bool×D Pl)
 | [.str s]=>some (okW (V s),.tup [.agg (cExN (gotW (V s)).1),.agg (dgC (gotW (V s)).2.1 (gotW (V s)).2.2)])
 | _=>none
theorem pPa_ok {V:Whl} (hV:SndPa V):∀ds b d,pPa V ds=some (b,d)→b=true→Snd 5 ds d:=by
 intro ds b d h hb
 unfold pPa at h
 split at h
 ·simp only [Option.some.injEq,Prod.mk.injEq] at h
  obtain ⟨h1,rfl⟩:=h
  exact hV _ _ _ _ (okW_some (h1.trans hb))
 ·simp at h
def W40:Whl:=wholeP (textZ (wholeP (fun _=>none) 40)) 40
theorem W40_ok:WhOk W40:=whole_ok (text_ok (whole_ok (fun z e z' _ h=>by cases h) (by decide))) (by decide)
def P40:Whl:=parseP W40
theorem P40_snd:SndPa P40:=pa_sound W40_ok.snd
def tAw:Eng.Told Pl:=tell 5 (pPa P40) tell0
theorem awake_sound:Snd 4 [] (.bool true):=snd_of (n:=2) (tell_ok (pPa_ok P40_snd) (tell0_ok _)) (noTL_ok _ _) (by kernel_rfl:ev tAw noTL 2 4 []=some (.bool true))
end Go.Proofs.YtcgbgcconigdbaaGreatDoor.Rd
