/-
 WHAT THE PROGRAM's READER READS: a round of a string's parts, an expression that a part is.
-/
import Derived.Test.YtcgbgcconigdbaaGreatDoorFresh
import Derived.Test.YtcgbgcconigdbaaGreatDoorMoved6
namespace Go.Proofs.YtcgbgcconigdbaaGreatDoor.Rd
open Go.Eng
open Mv (seqL seqR opsOf idOf)
set_option maxRecDepth 100000
abbrev Whl:=Str→Option (ExprR×Int×PosR)
def okW (r:Option (ExprR×Int×PosR)):Bool:=match r with
 | some _=>true
 | none=>false
def gotW (r:Option (ExprR×Int×PosR)):ExprR×Int×PosR:=r.getD (e00,0,p00)
theorem okW_some {r:Option (ExprR×Int×PosR)} (h:okW r=true):r=some ((gotW r).1,(gotW r).2.1,(gotW r).2.2):=by
 cases r with
 | none=>simp [okW] at h
 | some x=>rfl
def dgC (c:Int) (p:PosR):List (D Pl):=[dI c,dI p.at',dI p.line,dI p.col,.str []]
def SndW (W:Whl):Prop:=∀s e c p,W s=some (e,c,p)→Snd 7 [.str s] (.tup [.agg (cExN e),.agg (dgC c p)])
def pWh (W:Whl):List (D Pl)→Option (Bool×D Pl)
 | [.str s]=>some (okW (W s),.tup [.agg (cExN (gotW (W s)).1),.agg (dgC (gotW (W s)).2.1 (gotW (W s)).2.2)])
 | _=>none
theorem pWh_ok {W:Whl} (hW:SndW W):∀ds b d,pWh W ds=some (b,d)→b=true→Snd 7 ds d:=by
 intro ds b d h hb
 unfold pWh at h
 split at h
 ·simp only [Option.some.injEq,Prod.mk.injEq] at h
  obtain ⟨h1,rfl⟩:=h
  exact hW _ _ _ _ (okW_some (h1.trans hb))
 ·simp at h
def tW (W:Whl):Eng.Told Pl:=tK (tell 7 (pWh W) tell0)
theorem tW_ok {W:Whl} (hW:SndW W):TOk (tW W):=tK_ok (tell_ok (pWh_ok hW) (tell0_ok _))
def mvP (b p:PosR):PosR:=⟨IntKind.i64.wrap (b.at'+p.at'),b.line,IntKind.i64.wrap (IntKind.i64.wrap (b.col+p.col) - 1)⟩
def pt (t:TokR) (i:Nat):PartR:=t.parts.getD i default
def badZ (z:Rdr) (c:Int) (p:PosR):Rdr:={ z with c:=c,p:=p }
def sTx (z:Rdr) (t:TokR) (out:List ExprR) (i:Int):St Pl:=mkS 104 [(0,.ptr 50000 0),(2,.ptr 2 0),(3,.ptr 3 0),(4,.ptr 4 0),(51,.pl (pParts t.parts) .any),(52,dI t.parts.length),(53,dI i)]
 [(4,.box false (cEq 26 [] [] 0 0 [] (.arr 64) t.p)),(64,.arr false (pExprs out)),(3,.box false (cTok t)),(2,.box false zC0),(50000,.box false (cRdr z))]
def sTxR (e:ExprR) (z:Rdr):St Pl:=mkS 104 [(0,.ptr 50000 0),(2,.ptr 2 0)] [(2,.box false (cExN e)),(50000,.box false (cRdr z))]
def FTx:Fix Pl:={ keep:=[0,2,3,4,51,52,53],lose:=[6,7,8],can:=[(4,11,64)],ord:=[4,64,3,2,50000] }
def FTxR:Fix Pl:={ calm:=[64],keep:=[0,2],lose:=[3,4,6,7,8,64],wid:=[(2,6,pVals []),(2,7,pStrs []),(2,11,pExprs [])],ord:=[2,50000] }
noncomputable def fixT (e:Ex) (S:St Pl):St Pl:=match e with
 | .ret=>numS 2 [12,13,14] (fixS X0.C FTxR S)
 | _=>fixS X0.C FTx S
noncomputable abbrev evT (R:Eng.Told Pl) (n:Nat) (code:Code) (S:St Pl):Option (Ex×St Pl):=exec X0 (callK X0 F0 R noTL n) noL code S (fun e S=>some (e,fixT e S))
theorem goes_ofT {R:Eng.Told Pl} (hR:TOk R) {n:Nat} {code:Code} {S S':St Pl} {e:Ex} (h:evT R n code S=some (e,S')):Goes X0 code S e S':=by
 obtain ⟨e1,S1,h1,h2⟩:=body_goes xok fok hR (noTL_ok _ _) (fun b _=>noL_ok _ b) h
 simp only [Option.some.injEq,Prod.mk.injEq] at h1
 obtain ⟨rfl,rfl⟩:=h1
 cases e1 with
 | ret=>exact (h2.weak (Weak.fix xok FTxR S1)).weak (Weak.num _ _ _)
 | normal=>exact h2.weak (Weak.fix xok FTx S1)
 | exit id=>exact h2.weak (Weak.fix xok FTx S1)
def apK {γ β:Type} (n:Nat) (o:List γ) (x:γ) (k:List γ→Option β):Option β:=ck_ (true&&Nat.ble ((o.length+1) * n) big) (k (o++[x]))
theorem apK_t {γ β:Type} {n:Nat} {o:List γ} (h:(o.length+1) * n≤big) (x:γ) (k:List γ→Option β):apK n o x k=k (o++[x]):=by
 unfold apK
 rw [show Nat.ble ((o.length+1) * n) big=true from Nat.ble_eq_true_of_le h]
 rfl
def bodyTx (W:Whl) (z:Rdr) (t:TokR) (out:List ExprR) (i:Nat):Option (Ex×St Pl) :=
 lt_ i t.parts.length (ix_ i t.parts.length (bif !(pt t i).expr then apK 192 out (ltE 3 0 (pt t i).s) fun o=>some (.normal,sTx z t o (IntKind.i64.wrap ((i:Int)+1)))
  else ck_ (okW (W (pt t i).s)) (bif (gotW (W (pt t i).s)).2.1 != 0 then (bif z.c==0 then some (.ret,sTxR (ndE 26 [] [] out) (badZ z (gotW (W (pt t i).s)).2.1 (mvP (pt t i).p (gotW (W (pt t i).s)).2.2))) else some (.ret,sTxR (ndE 26 [] [] out) z)) else none))) (some (.exit 0,sTx z t out i))
theorem bTx (W:Whl) (z:Rdr) (t:TokR) (out:List ExprR) (i:Nat):evT (tW W) 4 (loopAt 53 0) (sTx z t out i)=bodyTx W z t out i:=by kernel_rfl
end Go.Proofs.YtcgbgcconigdbaaGreatDoor.Rd
namespace Go.Proofs.YtcgbgcconigdbaaGreatDoor.Rd
open Go.Eng Go.RowKit
open Mv (seqL seqR opsOf idOf opAt opAt_some wpOp_call RwE cRw cP3)
set_option maxRecDepth 100000
noncomputable abbrev evX (n:Nat) (code:Code) (keep:List Nat) (S:St Pl):Option (Ex×St Pl) :=
 exec X0 (callK X0 F0 tell0 noTL n) noL code S (fun e S=>some (e,maskS (keepOf keep) S))
theorem goes_ofX {n:Nat} {code:Code} {keep:List Nat} {S S':St Pl} {e:Ex} (h:evX n code keep S=some (e,S')):Goes X0 code S e S':=by
 obtain ⟨e1,S1,h1,h2⟩:=body_goes xok fok (tell0_ok _) (noTL_ok _ _) (fun b _=>noL_ok _ b) h
 simp only [Option.some.injEq,Prod.mk.injEq] at h1
 obtain ⟨rfl,rfl⟩:=h1
 exact h2.post _
noncomputable def tb:Code:=loopAt 53 0
noncomputable def t9:Code:=seqL tb
noncomputable def tCd:Code:=seqL (seqR tb)
noncomputable def tIn:Code:=seqL (seqL (seqR (seqR tb)))
noncomputable def t20:Code:=seqR (seqR (seqR tb))
noncomputable def t10:Code:=seqL tIn
noncomputable def t11:Code:=seqL (seqR tIn)
noncomputable def t13:Code:=seqL (seqR (seqR tIn))
noncomputable def t14:Code:=seqL (seqR (seqR (seqR tIn)))
noncomputable def t19:Code:=seqR (seqR (seqR (seqR tIn)))
theorem tb_eq:loopAt 53 0=.seq t9 (.seq tCd (.seq (.block 1 (.seq t10 (.seq t11 (.seq t13 (.seq t14 t19))))) t20)):=by kernel_rfl
theorem t13_eq:t13=.region 13 (opsOf t13) false:=by kernel_rfl
theorem t19_eq:t19=.region 19 (opsOf t19) true:=by kernel_rfl
def slTx (t:TokR) (i:Nat):List (Nat×D Pl):=[(0,.ptr 50000 0),(2,.ptr 2 0),(3,.ptr 3 0),(4,.ptr 4 0),(51,.pl (pParts t.parts) .any),(52,dI t.parts.length),(53,dI i)]
def obTx (z:Rdr) (t:TokR) (out:List ExprR):Obs Pl:=[(4,.box false (cEq 26 [] [] 0 0 [] (.arr 64) t.p)),(64,.arr false (pExprs out)),(3,.box false (cTok t)),(2,.box false zC0),(50000,.box false (cRdr z))]
def sA (z:Rdr) (t:TokR) (out:List ExprR) (i:Nat) (b:Bool):St Pl:=mkS 104 (slTx t i++[(54,.bool b)]) (obTx z t out)
theorem e9 (z:Rdr) (t:TokR) (out:List ExprR) (i:Nat):evX 0 t9 [0,2,3,4,51,52,53,54] (sTx z t out i)=some (.normal,sA z t out i (decide ((i:Int) < (t.parts.length:Int)))):=by kernel_rfl
theorem eCd (z:Rdr) (t:TokR) (out:List ExprR) (i:Nat):evX 0 tCd [0,2,3,4,51,52,53] (sA z t out i true)=some (.normal,sTx z t out i):=by kernel_rfl
def cPt (p:PartR):List (D Pl):=[.bool p.expr,.str p.s,dI p.p.at',dI p.p.line,dI p.p.col]
def s10 (z:Rdr) (t:TokR) (out:List ExprR) (i:Nat) (p:PartR):St Pl:=mkS 104 (slTx t i++[(6,.ptr 6 0)]) ((6,.box false (cPt p))::obTx z t out)
theorem e10 (z:Rdr) (t:TokR) (out:List ExprR) (i:Nat):evX 0 t10 [0,2,3,4,6,51,52,53] (sTx z t out i)=ix_ i t.parts.length (some (.normal,s10 z t out i (pt t i))):=by kernel_rfl
theorem e11 (z:Rdr) (t:TokR) (out:List ExprR) (i:Nat) (s:List UInt8) (q:PosR):evX 0 t11 [0,2,3,4,6,51,52,53] (s10 z t out i ⟨true,s,q⟩)=some (.normal,s10 z t out i ⟨true,s,q⟩):=by kernel_rfl
theorem run_call1 {P:Program} {a:Act} {w:World} {o:Oper} {x:Operand} {f:FuncId} {ts:Array TypeId} (hop:o.op=.call ⟨.value (.func f),#[x],ts⟩):(execOp a.eval o).run P w=(callFunc f #[a.eval x]).run P w:=by
 obtain ⟨dst,op,type,pos,after,guard⟩:=o
 simp only at hop
 subst hop
 simp [execOp,resolve,Deferred.ofValue,invoke,Act.eval]
theorem num_get {u:Value} {cx:Cx Pl} (h:RD X0.C cx u .num):isNumV u:=by cases h with | num n hn=>exact ⟨n,rfl,hn⟩
theorem tree_rw {cx:Cx Pl} {us:Array Value} {e:ExprR} (h:RD X0.C cx (.agg us) (.agg (cExN e))):∃p:PosR,∀cx':Cx Pl,RD X0.C cx' (.agg us) (.agg (cRw (RwE.of us p))):=by
 obtain ⟨vs,hu,hs,h1,hr⟩:=rd_agg_get h
 obtain rfl:us=vs:=by simpa using hu
 have hs:us.size=15:=hs
 have hge:∀(j:Nat) (hj:j < 15),us[j]?=some (us.getD j undef):=fun j hj=>by
  rw [Array.getD_eq_getD_getElem?,Array.getElem?_eq_getElem (by omega)];rfl
 obtain ⟨p0,hp0,hq0⟩:=num_get (hr 12 _ .num (hge 12 (by omega)) rfl)
 obtain ⟨p1,hp1,hq1⟩:=num_get (hr 13 _ .num (hge 13 (by omega)) rfl)
 obtain ⟨p2,hp2,hq2⟩:=num_get (hr 14 _ .num (hge 14 (by omega)) rfl)
 exact ⟨⟨p0,p1,p2⟩,fun cx'=>Mv.rd_row hs (fun j hj=>hge j (by omega)) (by rw [hge 12 (by omega),hp0]) (by rw [hge 13 (by omega),hp1]) (by rw [hge 14 (by omega),hp2]) ⟨hq0,hq1,hq2⟩ h1 cx'⟩
theorem rw_tree {F:Nat→Prop} {w2 w:World} {e:ExprR} {us:Array Value} {p:PosR} {v:Value} {cx:Cx Pl} (hP:RowW F w2 w) (hb:Bare e) (h:RD X0.C (cxF F w2) (.agg us) (.agg (cExN e))) (hr:RD X0.C cx v (.agg (cRw (RwE.of us p)))):RD X0.C (cxF F w) v (.agg (cExN e)):=by
 obtain ⟨us',hu,hs,h1,hrd⟩:=rd_agg_get h
 obtain rfl:us=us':=by simpa using hu
 have hs:us.size=15:=hs
 obtain ⟨vs,hvs,s1,s2,s3,s4⟩:=Mv.row_rd hr
 rw [hvs]
 refine .agg vs _ s1 s4 fun j u c hu hc=>?_
 by_cases hj:j < 12
 ·rw [s2 j hj] at hu
  obtain rfl:=Option.some.inj hu
  exact tree_cell hP hb j c _ hj hc (hrd j _ c (by rw [Array.getD_eq_getD_getElem?,Array.getElem?_eq_getElem (by omega)];rfl) hc)
 ·obtain ⟨n,rfl,hR⟩:=s3 j u (by omega) hu
  have hlt:j < 15:=by
   rcases Nat.lt_or_ge j 15 with h' | h'
   ·exact h'
   ·rw [List.getElem?_eq_none (by rw [cExN_len];exact h')] at hc;cases hc
  have:c=.num:=by
   match j,hj,hlt with
   | 12,_,_=>simpa [cExN] using hc.symm
   | 13,_,_=>simpa [cExN] using hc.symm
   | 14,_,_=>simpa [cExN] using hc.symm
  subst this
  exact .num _ hR
def Fr (g:Gh) (e:ExprR) (us:Array Value) (S:St Pl) (a:Act) (w:World):Prop:=∃(rho:Nat→Option Nat) (S1:St Pl) (a1:Act) (w1 w2:World) (rho':Nat→Option Nat),Sim X0 { g with rho:=rho } S1.tm S1.hs a1 w1∧BelowD X0.C.dr w1.heap.size w1 w2 ∧
 RD X0.C (cxF (madeF w1 w2) w2) (.agg us) (.agg (cExN e))∧Sim X0 { gFr g rho S1.hs w1 w2 with rho:=rho' } S.tm S.hs a w∧KeyIn S.tm (fun _=>False)
section
variable {g:Gh} {e:ExprR} {us:Array Value} {S S':St Pl} {a:Act} {w:World}
theorem Fr.code {code:Code} {x:Ex} {Q:Exit→Act→World→Prop} (hg:Goes X0 code S x S') (h:Fr g e us S a w) (hQ:∀a' w',Fr g e us S' a' w'→Q (toExit x) a' w'):code.wp X0.P Q a w:=by
 obtain ⟨rho,S1,a1,w1,w2,rho',h1,h2,h3,h4,h5⟩:=h
 exact hg _ a w h4 h5 Q fun rho2 a' w' h6 h7=>hQ a' w' ⟨rho,S1,a1,w1,w2,rho2,h1,h2,h3,h6,h7⟩
theorem Fr.op {n:Nat} {names:List Nat} {ops:Array Oper} {i:Nat} {o:Oper} {K:Act→World→Prop} {Q:Exit→Act→World→Prop} (ho:ops[i]?=some o) (hgn:o.guard=none) (hst:stepO tell0 n names ops i S=some S') (h:Fr g e us S a w)
  (hK:∀a' w',Fr g e us S' a' w'→K a' w'):wpOp X0.P ops Q i K a w:=by
 obtain ⟨rho,S1,a1,w1,w2,rho',h1,h2,h3,h4,h5⟩:=h
 exact opO_goes (tell0_ok _) ho hgn hst h4 h5 fun rho2 a' w' h6 h7=>hK a' w' ⟨rho,S1,a1,w1,w2,rho2,h1,h2,h3,h6,h7⟩
theorem Fr.mask {keep:List Nat} (h:Fr g e us S a w):Fr g e us (maskS (keepOf keep) S) a w:=by
 obtain ⟨rho,S1,a1,w1,w2,rho',h1,h2,h3,h4,h5⟩:=h
 exact ⟨rho,S1,a1,w1,w2,rho',h1,h2,h3,h4.mask _,h5.mask _⟩
end
def avC (w:World) (b:Nat):Prop:=b < w.heap.size∧X0.glob b=none
section
variable {g:Gh} {S:St Pl} {a:Act} {w w2:World}
theorem avC_glob (hS:Sim X0 g S.tm S.hs a w):GlobOk X0.C X0.glob w (avC w)∧∀i cs,X0.glob i=some cs→GSz w i cs.length:=by
 have key:∀i cs,X0.glob i=some cs→w.heap[i]?=g.w0.heap[i]?:=fun i cs hg=>by
  obtain ⟨h1,h2⟩:=hS.glob i cs hg
  have hav:=glob_av0 h1 (glob_one hg)
  have hlt:i < g.w0.heap.size:=by
   obtain ⟨cells,T,fz,hh,_⟩:=h2
   exact lt_of_heap hh
  exact hS.below.block i hlt fun h=>hav (.inr h)
 have hsz:∀i cs,X0.glob i=some cs→GSz w i cs.length:=fun i cs hg=>by
  obtain ⟨_,cells,T,fz,hh,hz⟩:=hS.glob i cs hg
  exact ⟨cells,T,fz,by rw [key i cs hg];exact hh,hz⟩
 refine ⟨fun i cs hg=>⟨glob_blk (hS.glob i cs hg).1 (glob_one hg) (fun h=>?_) (key i cs hg),hsz i cs hg⟩,hsz⟩
 have h2:=h.2
 rw [hg] at h2;cases h2
theorem avC_rows (hS:Sim X0 g S.tm S.hs a w) (hB:BelowD X0.C.dr w.heap.size w w2):RowsIn (madeF w w2) (avC w) w2:=by
 intro b cells T hav hh h15
 refine ⟨Nat.le_of_not_lt fun hlt=>?_,lt_of_heap hh⟩
 cases hg:X0.glob b with
 | none=>exact hav ⟨hlt,hg⟩
 | some cs =>
  obtain ⟨c1,T1,f1,h1,hz⟩:=(avC_glob hS).2 b cs hg
  rw [hB.block b hlt,h1] at hh
  simp only [Option.some.injEq,Obj.cells.injEq] at hh
  obtain ⟨rfl,_⟩:=hh
  rw [glob_one hg] at hz
  have hz:c1.size=1:=hz
  omega
end
end Go.Proofs.YtcgbgcconigdbaaGreatDoor.Rd
