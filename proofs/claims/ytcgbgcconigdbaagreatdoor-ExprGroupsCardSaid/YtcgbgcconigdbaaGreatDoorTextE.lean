/-
 WHAT THE PROGRAM's READER READS: a round of a string's parts, the call that moves its tree.
-/
import Derived.Test.YtcgbgcconigdbaaGreatDoorTextB
namespace Go.Proofs.YtcgbgcconigdbaaGreatDoor.Rd
open Go.Eng Go.RowKit
open Mv (seqL seqR opsOf idOf opAt opAt_some wpOp_call run_call2 RwE cRw cP3)
set_option maxRecDepth 100000
def nmT:List Nat:=[4,64,3,2,50000,6,7,8]
def sBt (z:Rdr) (t:TokR) (out:List ExprR) (i:Nat) (s:List UInt8) (q:PosR):St Pl:=s10 z t out i ⟨true,s,q⟩
noncomputable def g1 (z:Rdr) (t:TokR) (out:List ExprR) (i:Nat) (s:List UInt8) (q:PosR):St Pl:=(stepO tell0 1 nmT (opsOf t13) 0 (sBt z t out i s q)).getD ⟨[],[]⟩
noncomputable def g2 (z:Rdr) (t:TokR) (out:List ExprR) (i:Nat) (s:List UInt8) (q:PosR):St Pl:=(stepO tell0 1 nmT (opsOf t13) 1 (g1 z t out i s q)).getD ⟨[],[]⟩
noncomputable def g3 (z:Rdr) (t:TokR) (out:List ExprR) (i:Nat) (s:List UInt8) (q:PosR) (r:RwE) (p:PosR):St Pl:=⟨putT (g2 z t out i s q).tm (some 74) (.tup [.agg (cRw r),.agg (dgC 0 p)]),(g2 z t out i s q).hs⟩
noncomputable def gN (z:Rdr) (t:TokR) (out:List ExprR) (i:Nat) (s:List UInt8) (q:PosR) (r:RwE) (p:PosR):Nat→St Pl
 | 0=>g3 z t out i s q r p
 | k+1=>(stepO tell0 1 nmT (opsOf t13) (k+3) (gN z t out i s q r p k)).getD ⟨[],[]⟩
theorem z13:(opsOf t13).size=10:=by kernel_rfl
theorem gd13:(opsOf t13).all (fun o=>o.guard.isNone)=true:=by kernel_rfl
theorem o13:opAt (opsOf t13) 2=some (.call ⟨.value (.func 7),#[.tmp 73],#[9]⟩,some 74,none):=by kernel_rfl
theorem h13a (z:Rdr) (t:TokR) (out:List ExprR) (i:Nat) (s:List UInt8) (q:PosR):stepO tell0 1 nmT (opsOf t13) 0 (sBt z t out i s q)=some (g1 z t out i s q):=by kernel_rfl
theorem h13b (z:Rdr) (t:TokR) (out:List ExprR) (i:Nat) (s:List UInt8) (q:PosR):stepO tell0 1 nmT (opsOf t13) 1 (g1 z t out i s q)=some (g2 z t out i s q):=by kernel_rfl
theorem h13r (z:Rdr) (t:TokR) (out:List ExprR) (i:Nat) (s:List UInt8) (q:PosR):evK X0 (g2 z t out i s q).tm [] (.tmp 73)=.str s:=by kernel_rfl
theorem h13 (z:Rdr) (t:TokR) (out:List ExprR) (i:Nat) (s:List UInt8) (q:PosR) (r:RwE) (p:PosR):(List.range 7).map (fun k=>stepO tell0 1 nmT (opsOf t13) (k+3) (gN z t out i s q r p k))=(List.range 7).map (fun k=>some (gN z t out i s q r p (k+1))):=by kernel_rfl
def ob13 (z:Rdr) (t:TokR) (out:List ExprR) (s:List UInt8) (q:PosR) (r:RwE) (p:PosR):Obs Pl:=obTx z t out++[(6,.box false (cPt ⟨true,s,q⟩)),(7,.box false (cRw r)),(8,.box false (dgC 0 p))]
def s13 (z:Rdr) (t:TokR) (out:List ExprR) (i:Nat) (s:List UInt8) (q:PosR) (r:RwE) (p:PosR):St Pl:=mkS 104 (slTx t i++[(6,.ptr 6 0),(7,.ptr 7 0),(8,.ptr 8 0)]) (ob13 z t out s q r p)
theorem h13z (z:Rdr) (t:TokR) (out:List ExprR) (i:Nat) (s:List UInt8) (q:PosR) (r:RwE) (p:PosR):maskS (keepOf [0,2,3,4,6,7,8,51,52,53]) (gN z t out i s q r p 7)=s13 z t out i s q r p:=by kernel_rfl
theorem e14 (z:Rdr) (t:TokR) (out:List ExprR) (i:Nat) (s:List UInt8) (q:PosR) (r:RwE) (p:PosR):evX 0 t14 [0,2,3,4,6,7,8,51,52,53] (s13 z t out i s q r p)=some (.normal,s13 z t out i s q r p):=by kernel_rfl
section
variable {g:Gh}
theorem rd_tup_get {C:Pay Pl} {cx:Cx Pl} {v:Value} {cs:List (D Pl)} (h:RD C cx v (.tup cs)):∃vs:Array Value,v=.tuple vs∧vs.size=cs.length∧∀(i:Nat) u c,vs[i]?=some u→cs[i]?=some c→RD C cx u c:=by
 cases h with
 | tup vs _ hs hr=>exact ⟨vs,rfl,hs,hr⟩
theorem op13_call {W:Whl} (hW:SndW W) {z:Rdr} {t:TokR} {out:List ExprR} {i:Nat} {s:List UInt8} {q:PosR} {e:ExprR} {p:PosR} (hs:W s=some (e,0,p)) (hb:Bare e) {a:Act} {w:World} (hS:Sim X0 g (g2 z t out i s q).tm (g2 z t out i s q).hs a w) (hK:KeyIn (g2 z t out i s q).tm fun _=>False)
  {K:Act→World→Prop} {Q:Exit→Act→World→Prop} (h:∀us pp a' w',(∀cx:Cx Pl,RD X0.C cx (.agg us) (.agg (cRw (RwE.of us pp))))→Fr g e us (g3 z t out i s q (RwE.of us pp) p) a' w'→K a' w'):wpOp X0.P (opsOf t13) Q 2 K a w:=by
 obtain ⟨o,h1,h2,h3,h4⟩:=opAt_some o13
 have harg:=evK_sound xok hS (ks:=[]) (fun k hk=>by simp at hk) (.tmp 73)
 rw [h13r] at harg
 have hc:=hW s e 0 p hs w (avC w) #[a.eval (.tmp 73)] (avC_glob hS).1 (fun b hb=>hb.1) rfl (fun j v c hv hc=>by
  match j with
  | 0 =>
   simp only [List.getElem?_cons_zero,Option.some.injEq] at hc
   obtain rfl:a.eval (.tmp 73)=v:=by simpa using hv
   subst hc
   exact plain_rd rfl harg
  | j+1=>simp at hc)
 refine wpOp_call h1 h4 (run_call1 h2) hc fun v w2 ⟨hr,hB,_⟩=>?_
 rw [h3]
 obtain ⟨vs,rfl,hz,hrd⟩:=rd_tup_get hr
 have hz:vs.size=2:=hz
 have q0:vs[0]?=some vs[0]:=by simp [hz]
 have q1:vs[1]?=some vs[1]:=by simp [hz]
 have r0:=hrd 0 _ _ q0 rfl
 have r1:=hrd 1 _ _ q1 rfl
 obtain ⟨us,u0,_,_,_⟩:=rd_agg_get r0
 rw [u0] at r0 q0
 have tree:=tree_av (avC_rows hS hB) hb r0
 obtain ⟨pp,hpp⟩:=tree_rw tree
 obtain ⟨ds,u1,d1,d2,d3⟩:=rd_agg_get r1
 have hdg:∀cx:Cx Pl,RD X0.C cx vs[1] (.agg (dgC 0 p)):=fun cx=>by
  rw [u1]
  refine .agg ds _ d1 d2 fun j u c hu hc=>?_
  have hpl:plainD c=true:=by
   match j with
   | 0=>simp only [dgC,List.getElem?_cons_zero,Option.some.injEq] at hc;subst hc;rfl
   | 1=>simp only [dgC,List.getElem?_cons_succ,List.getElem?_cons_zero,Option.some.injEq] at hc;subst hc;rfl
   | 2=>simp only [dgC,List.getElem?_cons_succ,List.getElem?_cons_zero,Option.some.injEq] at hc;subst hc;rfl
   | 3=>simp only [dgC,List.getElem?_cons_succ,List.getElem?_cons_zero,Option.some.injEq] at hc;subst hc;rfl
   | 4=>simp only [dgC,List.getElem?_cons_succ,List.getElem?_cons_zero,Option.some.injEq] at hc;subst hc;rfl
   | j+5=>simp [dgC] at hc
  exact plain_rd hpl (d3 j u c hu hc)
 have htup:∀cx:Cx Pl,RD X0.C cx (.tuple vs) (.tup [.agg (cRw (RwE.of us pp)),.agg (dgC 0 p)]):=fun cx=>by
  refine .tup vs _ hz fun j v c hv hc=>?_
  match j with
  | 0 =>
   simp only [List.getElem?_cons_zero,Option.some.injEq] at hc
   subst hc
   rw [q0] at hv
   rw [←Option.some.inj hv];exact hpp _
  | 1 =>
   simp only [List.getElem?_cons_succ,List.getElem?_cons_zero,Option.some.injEq] at hc
   subst hc
   rw [q1] at hv
   rw [←Option.some.inj hv];exact hdg _
  | j+2=>simp at hc
 have hput:Sim X0 (gFr g g.rho (g2 z t out i s q).hs w w2) (putT (g2 z t out i s q).tm (some 74) (.tup [.agg (cRw (RwE.of us pp)),.agg (dgC 0 p)])) (g2 z t out i s q).hs (a.put (some 74) (.tuple vs)) w2 :=
  (fresh_in hS hB).put (RG.of (htup _)) (fun ks b e he=>by cases he) hK fun _ _ h=>h
 have hkey:KeyIn (putT (g2 z t out i s q).tm (some 74) (.tup [.agg (cRw (RwE.of us pp)),.agg (dgC 0 p)])) fun _=>False:=hK.put (some 74) _ fun ks b e he=>by cases he
 exact h us pp _ _ hpp ⟨g.rho,g2 z t out i s q,a,w,w2,g.rho,hS,hB,tree,hput,hkey⟩
theorem op13_goes {W:Whl} (hW:SndW W) {z:Rdr} {t:TokR} {out:List ExprR} {i:Nat} {s:List UInt8} {q:PosR} {e:ExprR} {p:PosR} (hs:W s=some (e,0,p)) (hb:Bare e) {a:Act} {w:World} (hS:Sim X0 g (sBt z t out i s q).tm (sBt z t out i s q).hs a w) (hK:KeyIn (sBt z t out i s q).tm fun _=>False)
  {Q:Exit→Act→World→Prop} (hQ:∀us pp a' w',(∀cx:Cx Pl,RD X0.C cx (.agg us) (.agg (cRw (RwE.of us pp))))→Fr g e us (s13 z t out i s q (RwE.of us pp) p) a' w'→Q .normal a' w'):t13.wp X0.P Q a w:=by
 rw [t13_eq]
 have hgn:∀j,(hj:j < (opsOf t13).size)→((opsOf t13)[j]).guard=none:=fun j hj=>by
  simpa using (Array.all_eq_true'.1 gd13) (opsOf t13)[j] (Array.getElem_mem hj)
 refine wp_lex (fun j a w=>match j with
  | 0=>∃rho,Sim X0 { g with rho:=rho } (sBt z t out i s q).tm (sBt z t out i s q).hs a w∧KeyIn (sBt z t out i s q).tm fun _=>False
  | 1=>∃rho,Sim X0 { g with rho:=rho } (g1 z t out i s q).tm (g1 z t out i s q).hs a w∧KeyIn (g1 z t out i s q).tm fun _=>False
  | 2=>∃rho,Sim X0 { g with rho:=rho } (g2 z t out i s q).tm (g2 z t out i s q).hs a w∧KeyIn (g2 z t out i s q).tm fun _=>False
  | j+3=>∃us pp,(∀cx:Cx Pl,RD X0.C cx (.agg us) (.agg (cRw (RwE.of us pp))))∧Fr g e us (gN z t out i s q (RwE.of us pp) p j) a w) (fun j hj a w hI K hK'=>?_) (fun a w hI=>?_) ⟨g.rho,hS,hK⟩
 ·match j,hj,hI with
  | 0,hj,⟨rho,h1,h2⟩=>exact opO_goes (tell0_ok _) (o:=(opsOf t13)[0]) (by simp [hj]) (hgn 0 hj) (h13a z t out i s q) h1 h2 fun rho2 a' w' h3 h4=>hK' a' w' ⟨rho2,h3,h4⟩
  | 1,hj,⟨rho,h1,h2⟩=>exact opO_goes (tell0_ok _) (o:=(opsOf t13)[1]) (by simp [hj]) (hgn 1 hj) (h13b z t out i s q) h1 h2 fun rho2 a' w' h3 h4=>hK' a' w' ⟨rho2,h3,h4⟩
  | 2,hj,⟨rho,h1,h2⟩=>exact op13_call hW hs hb h1 h2 fun us pp a' w' h3 ⟨rho1,S1,a1,w1,w2,rho',k1,k2,k3,k4,k5⟩=>hK' a' w' ⟨us,pp,h3,rho1,S1,a1,w1,w2,rho',k1,k2,k3,k4,k5⟩
  | k+3,hj,⟨us,pp,h1,h2⟩ =>
   have hk:k < 7:=by rw [z13] at hj;omega
   have he:=List.map_inj_left.1 (h13 z t out i s q (RwE.of us pp) p) k (List.mem_range.2 hk)
   exact h2.op (o:=(opsOf t13)[k+3]) (by simp [hj]) (hgn (k+3) hj) he fun a' w' h3=>hK' a' w' ⟨us,pp,h1,h3⟩
 ·rw [z13] at hI
  obtain ⟨us,pp,h1,h2⟩:=hI
  have:=h2.mask (keep:=[0,2,3,4,6,7,8,51,52,53])
  rw [h13z] at this
  exact hQ us pp a w h1 this
end
end Go.Proofs.YtcgbgcconigdbaaGreatDoor.Rd
namespace Go.Proofs.YtcgbgcconigdbaaGreatDoor.Rd
open Go.Eng Go.RowKit
open Mv (seqL seqR opsOf idOf opAt opAt_some wpOp_call run_call2 RwE cRw cP3)
set_option maxRecDepth 100000
def nmU:List Nat:=[4,64,3,2,50000,6,7,8,100]
def cuE (e:ExprR) (S:St Pl):St Pl:=⟨putT S.tm (some 98) (.agg (cExN e)),S.hs⟩
noncomputable def fE (z:Rdr) (t:TokR) (out:List ExprR) (i:Nat) (s:List UInt8) (q:PosR) (r:RwE) (p:PosR) (e:ExprR) (m:Nat):St Pl:=runB tell0 1 nmU (opsOf t19) 5 (cuE e) m (s13 z t out i s q r p)
noncomputable def tabE:List Nat:=makeN (opsOf t19)
theorem tE_ok:tabN (opsOf t19) tabE 1023=true:=by kernel_rfl
theorem z19:(opsOf t19).size=10:=by kernel_rfl
theorem gd19:(opsOf t19).all (fun o=>o.guard.isNone)=true:=by kernel_rfl
theorem o19:opAt (opsOf t19) 5=some (.call ⟨.value (.func 68),#[.tmp 95,.tmp 97],#[33,31]⟩,some 98,none):=by kernel_rfl
def earlyE (l:List (Nat×Nat)):List (Nat×Nat):=l.filter fun q=>Nat.blt q.2 7&&!(Nat.beq q.2 5)
def at5 (l:List (Nat×Nat)):List Nat:=(l.filter fun q=>Nat.beq q.2 5).map (·.1)
theorem hE (z:Rdr) (t:TokR) (out:List ExprR) (i:Nat) (s:List UInt8) (q:PosR) (r:RwE) (p:PosR) (e:ExprR):(earlyE (pairsN (opsOf t19) tabE)).map (fun x=>stepO tell0 1 nmU (opsOf t19) x.2 (fE z t out i s q r p e x.1))=(earlyE (pairsN (opsOf t19) tabE)).map (fun x=>some (fE z t out i s q r p e (x.1+2 ^ x.2))):=by kernel_rfl
theorem hE5 (z:Rdr) (t:TokR) (out:List ExprR) (i:Nat) (s:List UInt8) (q:PosR) (r:RwE) (p:PosR) (e:ExprR):(at5 (pairsN (opsOf t19) tabE)).map (fun m=>(evK X0 (fE z t out i s q r p e m).tm [] (.tmp 95),evK X0 (fE z t out i s q r p e m).tm [] (.tmp 97)))=(at5 (pairsN (opsOf t19) tabE)).map (fun _=>(.agg (cRw r),.agg (cP3 q))):=by kernel_rfl
theorem hE5' (z:Rdr) (t:TokR) (out:List ExprR) (i:Nat) (s:List UInt8) (q:PosR) (r:RwE) (p:PosR) (e:ExprR):(at5 (pairsN (opsOf t19) tabE)).map (fun m=>cuE e (fE z t out i s q r p e m))=(at5 (pairsN (opsOf t19) tabE)).map (fun m=>fE z t out i s q r p e (m+2 ^ 5)):=by kernel_rfl
theorem hEb:(pairsN (opsOf t19) tabE).all (fun x=>Nat.blt x.2 7&&Nat.blt x.1 128||(Nat.beq x.2 7&&Nat.beq x.1 127)||(Nat.beq x.2 8&&Nat.beq x.1 255)||(Nat.beq x.2 9&&Nat.beq x.1 511))=true:=by kernel_rfl
def eN (e:ExprR):ExprR:=⟨e.op,e.s,e.s2,⟨e.v.kind,e.v.i,e.v.s,e.v.l,e.v.keys,e.v.tk,e.v.tof,e.v.sec⟩,e.l,p00⟩
def obE (z:Rdr) (t:TokR) (s:List UInt8) (q:PosR) (r:RwE) (p:PosR) (d:D Pl) (o:List ExprR):Obs Pl:=[(4,.box false [dI 26,.str [],.str [],dI 0,dI 0,.str [],.nilS,.nilS,dI 0,dI 0,.bool false,d,dI t.p.at',dI t.p.line,dI t.p.col]),(3,.box false (cTok t)),(2,.box false zC0),(50000,.box false (cRdr z)),(6,.box false (cPt ⟨true,s,q⟩)),(7,.box false (cRw r)),(8,.box false (dgC 0 p)),(100,.arr false (pExprs o))]
def u7 (z:Rdr) (t:TokR) (o:List ExprR) (i:Nat) (s:List UInt8) (q:PosR) (r:RwE) (p:PosR) (e:ExprR):St Pl:=mkS 104 (slTx t i++[(6,.ptr 6 0),(7,.ptr 7 0),(8,.ptr 8 0),(93,.ptr 4 11),(95,.agg (cRw r)),(96,.ptr 6 2),(97,.agg (cP3 q)),(98,.agg (cExN e)),(99,.pl (pExprs [eN e]) .full),(100,.arr 100)]) (obE z t s q r p .bad o)
theorem hE7 (z:Rdr) (t:TokR) (out:List ExprR) (i:Nat) (s:List UInt8) (q:PosR) (r:RwE) (p:PosR) (e:ExprR):stepO tell0 1 nmU (opsOf t19) 7 (fE z t out i s q r p e 127)=apK 192 out (eN e) fun o=>some (u7 z t o i s q r p e):=by kernel_rfl
noncomputable def u8 (z:Rdr) (t:TokR) (o:List ExprR) (i:Nat) (s:List UInt8) (q:PosR) (r:RwE) (p:PosR) (e:ExprR):St Pl:=(stepO tell0 1 nmU (opsOf t19) 8 (u7 z t o i s q r p e)).getD ⟨[],[]⟩
theorem hE8 (z:Rdr) (t:TokR) (o:List ExprR) (i:Nat) (s:List UInt8) (q:PosR) (r:RwE) (p:PosR) (e:ExprR):stepO tell0 1 nmU (opsOf t19) 8 (u7 z t o i s q r p e)=some (u8 z t o i s q r p e):=by kernel_rfl
def u9 (z:Rdr) (t:TokR) (o:List ExprR) (i:Nat) (s:List UInt8) (q:PosR) (r:RwE) (p:PosR):St Pl:=mkS 104 (slTx t i) (obE z t s q r p (.arr 100) o)
noncomputable def u9' (z:Rdr) (t:TokR) (o:List ExprR) (i:Nat) (s:List UInt8) (q:PosR) (r:RwE) (p:PosR) (e:ExprR):St Pl:=(stepO tell0 1 nmU (opsOf t19) 9 (u8 z t o i s q r p e)).getD ⟨[],[]⟩
theorem hE9 (z:Rdr) (t:TokR) (o:List ExprR) (i:Nat) (s:List UInt8) (q:PosR) (r:RwE) (p:PosR) (e:ExprR):stepO tell0 1 nmU (opsOf t19) 9 (u8 z t o i s q r p e)=some (u9' z t o i s q r p e):=by kernel_rfl
theorem hE9m (z:Rdr) (t:TokR) (o:List ExprR) (i:Nat) (s:List UInt8) (q:PosR) (r:RwE) (p:PosR) (e:ExprR):maskS (keepOf [0,2,3,4,51,52,53]) (u9' z t o i s q r p e)=u9 z t o i s q r p:=by kernel_rfl
theorem hE20 (z:Rdr) (t:TokR) (o:List ExprR) (i:Nat) (s:List UInt8) (q:PosR) (r:RwE) (p:PosR):evT tell0 1 t20 (u9 z t o i s q r p)=some (.normal,sTx z t o (IntKind.i64.wrap ((i:Int)+1))):=by kernel_rfl
theorem hEt:(pairsN (opsOf t19) tabE).all (fun x=>bif Nat.beq x.2 5 then !(x.1.testBit 5)&&(x.1+2 ^ x.2).testBit 5&&Nat.blt (x.1+2 ^ x.2) 128 else ((x.1+2 ^ x.2).testBit 5==x.1.testBit 5)&&(!(Nat.blt x.2 7)||Nat.blt (x.1+2 ^ x.2) 128))=true:=by kernel_rfl
noncomputable def fAll (z:Rdr) (t:TokR) (out:List ExprR) (i:Nat) (s:List UInt8) (q:PosR) (r:RwE) (p:PosR) (e:ExprR) (m:Nat):St Pl:=bif Nat.blt m 128 then fE z t out i s q r p e m else bif Nat.beq m 255 then u7 z t (out++[eN e]) i s q r p e else bif Nat.beq m 511 then u8 z t (out++[eN e]) i s q r p e else u9' z t (out++[eN e]) i s q r p e
theorem fAll_lt {z:Rdr} {t:TokR} {out:List ExprR} {i:Nat} {s:List UInt8} {q:PosR} {r:RwE} {p:PosR} {e:ExprR} {m:Nat} (h:Nat.blt m 128=true):fAll z t out i s q r p e m=fE z t out i s q r p e m:=by unfold fAll;rw [h];rfl
theorem fAll_255 {z:Rdr} {t:TokR} {out:List ExprR} {i:Nat} {s:List UInt8} {q:PosR} {r:RwE} {p:PosR} {e:ExprR}:fAll z t out i s q r p e 255=u7 z t (out++[eN e]) i s q r p e:=by
 unfold fAll
 rw [show Nat.blt 255 128=false from rfl,show Nat.beq 255 255=true from rfl,cond_false,cond_true]
theorem fAll_511 {z:Rdr} {t:TokR} {out:List ExprR} {i:Nat} {s:List UInt8} {q:PosR} {r:RwE} {p:PosR} {e:ExprR}:fAll z t out i s q r p e 511=u8 z t (out++[eN e]) i s q r p e:=by
 unfold fAll
 rw [show Nat.blt 511 128=false from rfl,show Nat.beq 511 255=false from rfl,show Nat.beq 511 511=true from rfl,cond_false,cond_false,cond_true]
theorem fAll_1023 {z:Rdr} {t:TokR} {out:List ExprR} {i:Nat} {s:List UInt8} {q:PosR} {r:RwE} {p:PosR} {e:ExprR}:fAll z t out i s q r p e 1023=u9' z t (out++[eN e]) i s q r p e:=by
 unfold fAll
 rw [show Nat.blt 1023 128=false from rfl,show Nat.beq 1023 255=false from rfl,show Nat.beq 1023 511=false from rfl,cond_false,cond_false,cond_false]
section
variable {g:Gh}
def SimK (g:Gh) (S:St Pl) (a:Act) (w:World):Prop:=∃rho,Sim X0 { g with rho:=rho } S.tm S.hs a w∧KeyIn S.tm fun _=>False
theorem SimK.op {n:Nat} {names:List Nat} {ops:Array Oper} {i:Nat} {o:Oper} {S S':St Pl} {a:Act} {w:World} {K:Act→World→Prop} {Q:Exit→Act→World→Prop} (ho:ops[i]?=some o) (hgn:o.guard=none) (hst:stepO tell0 n names ops i S=some S') (h:SimK g S a w)
  (hK:∀a' w',SimK g S' a' w'→K a' w'):wpOp X0.P ops Q i K a w:=by
 obtain ⟨rho,h4,h5⟩:=h
 exact opO_goes (tell0_ok _) ho hgn hst h4 h5 fun rho2 a' w' h6 h7=>hK a' w' ⟨rho2,h6,h7⟩
theorem Fr.drawn {e:ExprR} {us:Array Value} {S:St Pl} {a:Act} {w:World} (h:Fr g e us S a w):Fr g e us S a { w with drawn:=w.drawn+1 }:=by
 obtain ⟨rho,S1,a1,w1,w2,rho',h1,h2,h3,h4,h5⟩:=h
 exact ⟨rho,S1,a1,w1,w2,rho',h1,h2,h3,h4.grow xok.pay ⟨rfl,rfl,rfl,Nat.le_refl _,fun _ _=>rfl,fun _=>Nat.le_succ _⟩,h5⟩
theorem Fr.moved {e:ExprR} {us:Array Value} {S:St Pl} {a:Act} {w:World} {pp q:PosR} (hb:Bare e) (h:Fr g e us S a w) (e1:evK X0 S.tm [] (.tmp 95)=.agg (cRw (RwE.of us pp))) (e2:evK X0 S.tm [] (.tmp 97)=.agg (cP3 q)) {K:Act→World→Prop} {Q:Exit→Act→World→Prop}
  (hK:∀a' w',SimK g (cuE e S) a' w'→K a' w'):wpOp X0.P (opsOf t19) Q 5 K a w:=by
 obtain ⟨rho,S1,a1,w1,w2,rho',hS1,hB,tree,hS,hKy⟩:=h
 obtain ⟨o,h1,h2,h3,h4⟩:=opAt_some o19
 have r1:=evK_sound xok hS (ks:=[]) (fun k hk=>by simp at hk) (.tmp 95)
 rw [e1] at r1
 have r2:=evK_sound xok hS (ks:=[]) (fun k hk=>by simp at hk) (.tmp 97)
 rw [e2] at r2
 have hsz:w2.heap.size≤w.heap.size:=hS.below.size
 have hFw:∀b,madeF w1 w2 b→b < w.heap.size:=fun b hb=>Nat.lt_of_lt_of_le hb.2 hsz
 have hrow:RowW (madeF w1 w2) w2 w:=fun b cells T hFb hc=>⟨cells,by rw [fresh_same hS1 hS b hFb];exact hc,rfl,fun i v hv=>⟨fun _=>hv,fun hn=>⟨v,hv,hn⟩⟩⟩
 have hrd:=rw_tree hrow hb tree r1
 refine wpOp_call h1 h4 (run_call2 h2) (Mv.moved_ok hb w (madeF w1 w2) _ _ hFw hrd (Mv.p3_num r2)) fun v' w' ⟨hP,hV⟩=>?_
 rw [h3]
 have hS':=fresh_out hS1 hB hS hP
 have t1:=tree_pos hP.row hb hV hrd
 have t2:RD X0.C (cxOf { g with rho:=rho' } S.hs w') v' (.agg (cExN e)):=by
  refine RD.grow xok.pay (cx:=cxF (madeF w1 w2) w') (cx':=cxOf { g with rho:=rho' } S.hs w') ⟨fun b ob hav hb=>hb,fun b ob hb hav hv=>?_,fun _ _ _ h=>by simp [cx0] at h,fun _ _ _ _ h=>by simp [cx0] at h,fun b cells T fz hb=>⟨cells,T,fz,hb,rfl⟩⟩ t1
  have hF:madeF w1 w2 b:=Classical.byContradiction hav
  rcases hv with hv | ⟨o',ob',hl,_,hr⟩
  ·have k1:b < g.w0.heap.size:=hS1.av0 b hv
   have k2:g.w0.heap.size≤w1.heap.size:=hS1.below.size
   have:=hF.1
   omega
  ·rcases (hS.own o' ob' b hl hr).1 with k | ⟨o2,ob2,k1,k2⟩
   ·have k:w2.heap.size≤b:=k
    have:=hF.2
    omega
   ·have:=(hS1.own o2 ob2 b k1 k2).2
    have:=hF.1
    omega
 have hput:Sim X0 { g with rho:=rho' } (putT S.tm (some 98) (.agg (cExN e))) S.hs (a.put (some 98) v') w':=hS'.put (RG.of t2) (fun ks b e he=>by cases he) hKy fun _ _ h=>h
 exact hK _ _ ⟨rho',hput,hKy.put (some 98) _ fun ks b e he=>by cases he⟩
theorem op19_goes {z:Rdr} {t:TokR} {out:List ExprR} {i:Nat} {s:List UInt8} {q:PosR} {e:ExprR} {p pp:PosR} {us:Array Value} (hb:Bare e) (hbig:(out.length+1) * 192≤big) {a:Act} {w:World} (h:Fr g e us (s13 z t out i s q (RwE.of us pp) p) a w)
  {Q:Exit→Act→World→Prop} (hQ:∀a' w',SimK g (u9 z t (out++[eN e]) i s q (RwE.of us pp) p) a' w'→Q .normal a' w'):t19.wp X0.P Q a w:=by
 rw [t19_eq]
 have hgn:∀j,(hj:j < (opsOf t19).size)→((opsOf t19)[j]).guard=none:=fun j hj=>by
  simpa using (Array.all_eq_true'.1 gd19) (opsOf t19)[j] (Array.getElem_mem hj)
 have hat:∀j,(hj:j < (opsOf t19).size)→(opsOf t19)[j]?=some (opsOf t19)[j]:=fun j hj=>by simp [hj]
 refine wp_tabN xok.mixed tabE 1023 tE_ok (fun m a w=>if m.testBit 5=true then SimK g (fAll z t out i s q (RwE.of us pp) p e m) a w else Fr g e us (fE z t out i s q (RwE.of us pp) p e m) a w) (fun x hx a w hI K hK=>?_) (fun a w hI=>?_) ?_
 ·obtain ⟨m,k⟩:=x
  have ht:=List.all_eq_true.1 hEt _ hx
  have hbd:=List.all_eq_true.1 hEb _ hx
  simp only [Bool.or_eq_true,Bool.and_eq_true,Nat.blt_eq,Nat.beq_eq] at hbd
  simp only at ht hI hK ⊢
  by_cases h5:k=5
  ·subst h5
   have hm:m∈at5 (pairsN (opsOf t19) tabE):=List.mem_map.2 ⟨(m,5),List.mem_filter.2 ⟨hx,rfl⟩,rfl⟩
   have ha:=List.map_inj_left.1 (hE5 z t out i s q (RwE.of us pp) p e) m hm
   have hc:=List.map_inj_left.1 (hE5' z t out i s q (RwE.of us pp) p e) m hm
   simp only [Prod.mk.injEq] at ha
   have ht:(!(m.testBit 5)&&(m+2 ^ 5).testBit 5&&Nat.blt (m+2 ^ 5) 128)=true:=ht
   simp only [Bool.and_eq_true,Bool.not_eq_true'] at ht
   rw [if_neg (by rw [ht.1.1];simp)] at hI
   refine hI.moved hb ha.1 ha.2 fun a' w' h'=>hK a' w' ?_
   rw [if_pos ht.1.2,fAll_lt ht.2,←hc]
   exact h'
  ·have ht:(((m+2 ^ k).testBit 5==m.testBit 5)&&(!(Nat.blt k 7)||Nat.blt (m+2 ^ k) 128))=true:=by
    rw [←ht,show Nat.beq k 5=false from Bool.eq_false_iff.2 fun h=>h5 (Nat.eq_of_beq_eq_true h)];rfl
   simp only [Bool.and_eq_true,beq_iff_eq,Bool.or_eq_true,Bool.not_eq_true'] at ht
   by_cases h7:k < 7
   ·rw [ht.1] at hK
    have hk7:Nat.blt k 7=true:=by simpa [Nat.blt_eq] using h7
    have hm128:Nat.blt (m+2 ^ k) 128=true:=by
     rcases ht.2 with h | h
     ·rw [hk7] at h;cases h
     ·exact h
    have hm:Nat.blt m 128=true:=by
     rw [Nat.blt_eq] at hm128 ⊢
     omega
    have hmem:(m,k)∈earlyE (pairsN (opsOf t19) tabE):=List.mem_filter.2 ⟨hx,by rw [hk7,show Nat.beq k 5=false from Bool.eq_false_iff.2 fun h=>h5 (Nat.eq_of_beq_eq_true h)];rfl⟩
    have he:=List.map_inj_left.1 (hE z t out i s q (RwE.of us pp) p e) (m,k) hmem
    have hj:k < (opsOf t19).size:=by rw [z19];omega
    by_cases h6:m.testBit 5=true
    ·rw [if_pos h6,fAll_lt hm] at hI
     refine hI.op (hat k hj) (hgn k hj) he fun a' w' h'=>hK a' w' ?_
     rw [if_pos h6,fAll_lt hm128];exact h'
    ·rw [if_neg h6] at hI
     refine hI.op (hat k hj) (hgn k hj) he fun a' w' h'=>hK a' w' ?_
     rw [if_neg h6];exact h'
   ·rcases hbd with ((⟨h,_⟩ | ⟨rfl,rfl⟩) | ⟨rfl,rfl⟩) | ⟨rfl,rfl⟩
    ·exact absurd h h7
    ·rw [if_pos (show Nat.testBit 127 5=true from rfl),fAll_lt (show Nat.blt 127 128=true from rfl)] at hI
     rw [show 127+2 ^ 7=255 from rfl] at hK
     have hK:=fun a' w' h=>hK a' w' (by rw [if_pos (show Nat.testBit 255 5=true from rfl),fAll_255];exact h)
     exact hI.op (hat 7 (by rw [z19];omega)) (hgn 7 (by rw [z19];omega)) ((hE7 z t out i s q (RwE.of us pp) p e).trans (apK_t hbig _ _)) hK
    ·rw [if_pos (show Nat.testBit 255 5=true from rfl),fAll_255] at hI
     rw [show 255+2 ^ 8=511 from rfl] at hK
     have hK:=fun a' w' h=>hK a' w' (by rw [if_pos (show Nat.testBit 511 5=true from rfl),fAll_511];exact h)
     exact hI.op (hat 8 (by rw [z19];omega)) (hgn 8 (by rw [z19];omega)) (hE8 z t _ i s q (RwE.of us pp) p e) hK
    ·rw [if_pos (show Nat.testBit 511 5=true from rfl),fAll_511] at hI
     rw [show 511+2 ^ 9=1023 from rfl] at hK
     have hK:=fun a' w' h=>hK a' w' (by rw [if_pos (show Nat.testBit 1023 5=true from rfl),fAll_1023];exact h)
     exact hI.op (hat 9 (by rw [z19];omega)) (hgn 9 (by rw [z19];omega)) (hE9 z t _ i s q (RwE.of us pp) p e) hK
 ·rw [if_pos (show Nat.testBit 1023 5=true from rfl),fAll_1023] at hI
  obtain ⟨rho,h1,h2⟩:=hI
  have h3:=h1.mask (keepOf [0,2,3,4,51,52,53])
  have h4:=KeyIn.mask (keepOf [0,2,3,4,51,52,53]) h2
  rw [hE9m] at h3 h4
  exact hQ a w ⟨rho,h3,h4⟩
 ·rw [if_neg (show ¬ Nat.testBit 0 5=true from fun h=>by cases h)]
  exact h.drawn
end
end Go.Proofs.YtcgbgcconigdbaaGreatDoor.Rd
