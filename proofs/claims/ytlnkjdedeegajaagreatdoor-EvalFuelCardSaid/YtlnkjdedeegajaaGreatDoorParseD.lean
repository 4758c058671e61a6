/-
  suretyref08.Parse, on any text.
-/
import Derived.Test.YtlnkjdedeegajaaGreatDoorTotL
namespace Go.Proofs.YtlnkjdedeegajaaGreatDoor
open Go.Eng
set_option maxRecDepth 100000
def tPa (W:Wholes):Eng.Told Pl:=tell 9 pLex (tell 7 (pWh W) (tell 8 (pe1 fun e=>(true,dI (deepE e))) tell0))
theorem tPa_ok {W:Wholes} (hW:SndW W):TOk (tPa W):=tell_ok pLex_ok (tell_ok (pWh_ok hW) (tell_ok (pe1_ok fun a _=>rdepth_sound a) (tell0_ok _)))
def fiP (x:WR):Option (D Pl):=bif x.c != 0 then some (.tup [.agg zE,.agg (cDg x.c x.p)]) else some (.tup [.agg (cExpr x.e),.agg (cDg x.c x.p)])
theorem ePa (s:Str) (W:Wholes):evF (tPa W) noTL noL 2 Tryz.f4 [.str s] =
    ckP (W s) fun x=>bif (x.c==0)==true then (bif decide (deepE (etaE x.e) > 24) then ix_ 0 (allM s).l.length (some (.tup [.agg zE,.agg (cDg 12 (tok1 s).p)])) else fiP x) else fiP x:=by kernel_rfl
theorem parse_sound {W:Wholes} (hW:SndW W) (s:Str) (r:WR) (h:parseM W s=some r):Snd 4 [.str s] (.tup [.agg (cExpr r.e),.agg (cDg r.c r.p)]):=by
  have hL0:∀i,i < (loopsAt 4).length→LoopOk X0 noL (loopAt 4 i):=fun i _=>noL_ok _ _
  have key:=fun d (h:_=some d)=>snd_fn (n:=2) (tPa_ok hW) (noTL_ok _ _) (f:=4) (fn:=Tryz.f4) (by kernel_rfl) (loops_of (fn:=Tryz.f4) (by kernel_rfl) hL0) ((ePa s W).trans h)
  have bad:∀(c:Int) (p:PosR),RDle X0.C (.tup [.agg zE,.agg (cDg c p)]) (.tup [.agg (cExpr e00),.agg (cDg c p)]):=fun c p=>RDle.tup (.cons zE_rdle (RDles.refl _))
  unfold parseM at h
  rw [ckP_eq] at key
  cases hx:W s with
  | none=>rw [hx] at h;cases h
  | some x =>
  rw [hx] at h key
  simp only [thn] at h key
  unfold fiP at key
  cases c1:x.c==0 with
  | false =>
    rw [c1,cond_false] at h
    rw [c1,show (false==true)=false from rfl,cond_false,show (x.c != 0)=true by rw [bne,c1];rfl,cond_true] at key
    obtain rfl:=Option.some.inj h
    exact (key _ rfl).post (bad _ _)
  | true =>
    rw [c1,cond_true] at h
    rw [c1,show (true==true)=true from rfl,cond_true,etaE_eq] at key
    cases c2:decide (deepE x.e > 24) with
    | true =>
      rw [c2,cond_true] at h key
      cases c3:Nat.blt 0 (allM s).l.length with
      | false=>rw [c3] at h;cases h
      | true =>
        rw [c3] at h
        obtain rfl:=Option.some.inj h
        rw [Nat.blt_eq] at c3
        rw [ix_t c3] at key
        exact (key _ rfl).post (bad _ _)
    | false =>
      rw [c2] at h
      rw [c2,cond_false,show (x.c != 0)=false by rw [bne,c1];rfl,cond_false] at key
      obtain rfl:=Option.some.inj h
      exact key _ rfl
theorem parseV_sound (s:Str):Snd 4 [.str s] (.tup [.agg (cExpr (parseV s).e),.agg (cDg (parseV s).c (parseV s).p)]):=parse_sound W2_snd s _ (parseV_eq s)
end Go.Proofs.YtlnkjdedeegajaaGreatDoor
