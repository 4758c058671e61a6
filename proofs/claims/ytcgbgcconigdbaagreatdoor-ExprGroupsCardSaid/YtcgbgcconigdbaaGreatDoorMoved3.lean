/-
 A TREE WITH ITS PLACES TURNED: its contract.
-/
import Derived.Test.YtcgbgcconigdbaaGreatDoorStep
import Derived.Test.YtcgbgcconigdbaaGreatDoorEngTb
namespace Go.Proofs.YtcgbgcconigdbaaGreatDoor
open Go.Eng Go.RowKit
set_option maxRecDepth 100000
def cExN (e:ExprR):List (D Pl):=[dI e.op,.str e.s,.str e.s2,dI e.v.kind,dI e.v.i,.str e.v.s,.pl (pVals e.v.l) .any,.pl (pStrs e.v.keys) .any,dI e.v.tk,dI e.v.tof,.bool e.v.sec,.pl (pExprs e.l) .any,.num,.num,.num]
theorem elem_N (l:List ExprR) (i:Nat):X0.C.elem (pExprs l) i=cExN (l.getD i default):=rfl
inductive Bare:ExprR→Prop
 | mk (e:ExprR) (h1:e.v.l=[]) (h2:e.v.keys=[]) (h:∀x,x∈e.l→Bare x):Bare e
def isNumV (v:Value):Prop:=∃n,v=.int .i64 n∧inR .i64 n=true
def RowW (F:Nat→Prop) (w w':World):Prop:=∀(b:Nat) cells T,F b→w.heap[b]?=some (.cells cells T (0,0))→∃cells',w'.heap[b]?=some (.cells cells' T (0,0))∧cells'.size=cells.size ∧
  ∀(i:Nat) v,cells[i]?=some v→(i % 15 < 12→cells'[i]?=some v)∧(isNumV v→∃v',cells'[i]?=some v'∧isNumV v')
theorem RowW.refl (F:Nat→Prop) (w:World):RowW F w w:=fun _ cells _ _ h=>⟨cells,h,rfl,fun _ v hv=>⟨fun _=>hv,fun hn=>⟨v,hv,hn⟩⟩⟩
theorem RowW.trans {F:Nat→Prop} {a b c:World} (h:RowW F a b) (k:RowW F b c):RowW F a c:=fun x cells T hF hc=>by
 obtain ⟨c1,h1,h2,h3⟩:=h x cells T hF hc
 obtain ⟨c2,k1,k2,k3⟩:=k x c1 T hF h1
 refine ⟨c2,k1,k2.trans h2,fun i v hv=>⟨fun hi=>(k3 i v ((h3 i v hv).1 hi)).1 hi,fun hn=>?_⟩⟩
 obtain ⟨v1,q1,q2⟩:=(h3 i v hv).2 hn
 exact (k3 i v1 q1).2 q2
structure PosW (F:Nat→Prop) (w w':World):Prop where
 os:w'.os=w.os
 tape:w'.tape=w.tape
 output:w'.output=w.output
 size:w.heap.size≤w'.heap.size
 old:∀b,b < w.heap.size→¬ F b→w'.heap[b]?=w.heap[b]?
 row:RowW F w w'
 sz:∀(b:Nat) cells T fz,w.heap[b]?=some (.cells cells T fz)→∃cells' T' fz',w'.heap[b]?=some (.cells cells' T' fz')∧cells'.size=cells.size
 mp:∀b o,F b→w.heap[b]?=some o→(∀cells T,o≠.cells cells T (0,0))→w'.heap[b]?=some o
theorem PosW.refl (F:Nat→Prop) (w:World):PosW F w w :=
 ⟨rfl,rfl,rfl,Nat.le_refl _,fun _ _ _=>rfl,RowW.refl F w,fun b cells T fz h=>⟨cells,T,fz,h,rfl⟩,fun _ _ _ h _=>h⟩
theorem PosW.trans {F:Nat→Prop} {a b c:World} (h:PosW F a b) (k:PosW F b c):PosW F a c where
 os:=k.os.trans h.os
 tape:=k.tape.trans h.tape
 output:=k.output.trans h.output
 size:=Nat.le_trans h.size k.size
 old:=fun x hx hF=>(k.old x (Nat.lt_of_lt_of_le hx h.size) hF).trans (h.old x hx hF)
 row:=h.row.trans k.row
 sz:=fun x cells T fz hc=>by
  obtain ⟨c1,T1,f1,h1,h2⟩:=h.sz x cells T fz hc
  obtain ⟨c2,T2,f2,k1,k2⟩:=k.sz x c1 T1 f1 h1
  exact ⟨c2,T2,f2,k1,k2.trans h2⟩
 mp:=fun x o hF ho hn=>k.mp x o hF (h.mp x o hF ho hn) hn
abbrev cxF (F:Nat→Prop) (w:World):Cx Pl:=cx0 w fun b=>¬ F b
theorem pl_nil {cx cx':Cx Pl} {u:Value} {p:Pl} (hp:X0.C.len p=0) (h:RD X0.C cx u (.pl p .any)):RD X0.C cx' u (.pl p .any):=by
 cases h with
 | pl0 a c _ _ hl hk=>exact .pl0 a c p .any hl trivial
 | pl b off n c _ _ vs hn hc hb hk hav hcell h1 hrd =>
  rw [hp] at hn
  subst hn
  exact .pl0 _ c p .any hp trivial
def plainD:D Pl→Bool
 | .int _ _ | .str _ | .bool _ | .num | .bad=>true
 | _=>false
theorem plain_rd {cx cx':Cx Pl} {u:Value} {d:D Pl} (hd:plainD d=true) (h:RD X0.C cx u d):RD X0.C cx' u d:=by
 cases h<;>first | (simp [plainD] at hd;done) | (constructor<;>assumption) | constructor
theorem enc_mod {off i j:Nat} (h0:off % 15=0) (hj:j < 15):(off+(i * 15+j)) % 15=j:=by
 rw [Nat.add_mod,h0,Nat.zero_add,Nat.mod_mod,Nat.add_comm,Nat.add_mul_mod_self_right,Nat.mod_eq_of_lt hj]
theorem cExN_len (e:ExprR):(cExN e).length=15:=rfl
theorem tree_list {F:Nat→Prop} {w w':World} (hP:RowW F w w') {l:List ExprR} (hl:∀x,x∈l→∀(j:Nat) d u,j < 12→(cExN x)[j]?=some d→RD X0.C (cxF F w) u d→RD X0.C (cxF F w') u d) {u:Value}
  (h:RD X0.C (cxF F w) u (.pl (pExprs l) .any)):RD X0.C (cxF F w') u (.pl (pExprs l) .any):=by
 by_cases h0:l.length=0
 ·exact pl_nil h0 h
 cases h with
 | pl0 a c _ _ hl hk=>exact absurd hl h0
 | pl b off n c _ _ vs hn hc hb hk hav hcell h1 hrd hsp hal =>
  have hF:F b:=Classical.byContradiction hav
  obtain ⟨ha,cells,T,hh⟩:=hal rfl
  have ha:off % 15=0:=ha
  have hh:w.heap[b]?=some (.cells cells T (0,0)):=hh
  obtain ⟨cells',hh',hsz,hrow⟩:=hP b cells T hF hh
  have hj:∀{i j:Nat} {d},(X0.C.elem (pExprs l) i)[j]?=some d→j < 15:=fun {i j d} h=>by
   rw [elem_N] at h
   rcases Nat.lt_or_ge j 15 with h' | h'
   ·exact h'
   ·rw [List.getElem?_eq_none (by rw [cExN_len];exact h')] at h;cases h
  have hold:∀(i j:Nat) d,i < n→(X0.C.elem (pExprs l) i)[j]?=some d→cells[off+(i * 15+j)]?=some (vs i j):=fun i j d hi hd=>by
   have:w.cell? ⟨b,off+(i * 15+j),none⟩=some (vs i j):=hcell i j d hi hd
   rwa [cell_at (w:=w) hh] at this
  have hnum:∀(i j:Nat) d,i < n→(X0.C.elem (pExprs l) i)[j]?=some d→¬ j < 12→isNumV (vs i j):=fun i j d hi hd h12=>by
   have hr:=hrd i j d hi hd
   have hd':=hd
   rw [elem_N] at hd'
   have:d=.num:=by
    match j,h12,hj hd with
    | 12,_,_=>simpa [cExN] using hd'.symm
    | 13,_,_=>simpa [cExN] using hd'.symm
    | 14,_,_=>simpa [cExN] using hd'.symm
   subst this
   generalize vs i j=v at hr
   cases hr with
   | num n hn=>exact ⟨n,rfl,hn⟩
  have key:∀(i j:Nat) d,i < n→(X0.C.elem (pExprs l) i)[j]?=some d→∃v,cells'[off+(i * 15+j)]?=some v∧v.oneCell'=true∧RD X0.C (cxF F w') v d:=by
   intro i j d hi hd
   have hjl:=hj hd
   have hc0:=hold i j d hi hd
   obtain ⟨r1,r2⟩:=hrow _ _ hc0
   rw [enc_mod ha hjl] at r1
   by_cases h12:j < 12
   ·refine ⟨vs i j,r1 h12,h1 i j d hi hd,?_⟩
    have hmem:l.getD i default∈l:=by
     have:i < l.length:=by rw [hn] at hi;exact hi
     rw [List.getD_eq_getElem?_getD,List.getElem?_eq_getElem this];exact List.getElem_mem this
    exact hl _ hmem j d _ h12 (by rw [←elem_N];exact hd) (hrd i j d hi hd)
   ·obtain ⟨v',q1,n',rfl,q3⟩:=r2 (hnum i j d hi hd h12)
    refine ⟨_,q1,rfl,?_⟩
    have:d=.num:=by
     have hd':=hd
     rw [elem_N] at hd'
     match j,h12,hjl with
     | 12,_,_=>simpa [cExN] using hd'.symm
     | 13,_,_=>simpa [cExN] using hd'.symm
     | 14,_,_=>simpa [cExN] using hd'.symm
    subst this
    exact .num _ q3
  refine .pl b off n c (pExprs l) .any (fun i j=>(cells'[off+(i * 15+j)]?).getD undef) hn hc hb hk hav (fun i j d hi hd=>?_) (fun i j d hi hd=>?_) (fun i j d hi hd=>?_) True.intro (fun _=>⟨ha,cells',T,hh'⟩)
  ·obtain ⟨v,q1,q2,q3⟩:=key i j d hi hd
   rw [show X0.C.esz (pExprs l)=15 from rfl]
   show w'.cell? _=_
   rw [cell_at (w:=w') hh',q1];rfl
  ·obtain ⟨v,q1,q2,q3⟩:=key i j d hi hd
   rw [q1];exact q2
  ·obtain ⟨v,q1,q2,q3⟩:=key i j d hi hd
   rw [q1];exact q3
theorem tree_cell {F:Nat→Prop} {w w':World} (hP:RowW F w w') {e:ExprR} (hb:Bare e):∀(j:Nat) d u,j < 12→(cExN e)[j]?=some d→RD X0.C (cxF F w) u d→RD X0.C (cxF F w') u d:=by
 induction hb with
 | mk e h1 h2 h ih =>
  intro j d u hj hd hr
  match j,hj with
  | 0,_=>simp only [cExN,List.getElem?_cons_zero,Option.some.injEq] at hd;subst hd;exact plain_rd rfl hr
  | 1,_=>simp only [cExN,List.getElem?_cons_succ,List.getElem?_cons_zero,Option.some.injEq] at hd;subst hd;exact plain_rd rfl hr
  | 2,_=>simp only [cExN,List.getElem?_cons_succ,List.getElem?_cons_zero,Option.some.injEq] at hd;subst hd;exact plain_rd rfl hr
  | 3,_=>simp only [cExN,List.getElem?_cons_succ,List.getElem?_cons_zero,Option.some.injEq] at hd;subst hd;exact plain_rd rfl hr
  | 4,_=>simp only [cExN,List.getElem?_cons_succ,List.getElem?_cons_zero,Option.some.injEq] at hd;subst hd;exact plain_rd rfl hr
  | 5,_=>simp only [cExN,List.getElem?_cons_succ,List.getElem?_cons_zero,Option.some.injEq] at hd;subst hd;exact plain_rd rfl hr
  | 6,_ =>
   simp only [cExN,List.getElem?_cons_succ,List.getElem?_cons_zero,Option.some.injEq] at hd;subst hd
   exact pl_nil (by show e.v.l.length=0;rw [h1];rfl) hr
  | 7,_ =>
   simp only [cExN,List.getElem?_cons_succ,List.getElem?_cons_zero,Option.some.injEq] at hd;subst hd
   exact pl_nil (by show e.v.keys.length=0;rw [h2];rfl) hr
  | 8,_=>simp only [cExN,List.getElem?_cons_succ,List.getElem?_cons_zero,Option.some.injEq] at hd;subst hd;exact plain_rd rfl hr
  | 9,_=>simp only [cExN,List.getElem?_cons_succ,List.getElem?_cons_zero,Option.some.injEq] at hd;subst hd;exact plain_rd rfl hr
  | 10,_=>simp only [cExN,List.getElem?_cons_succ,List.getElem?_cons_zero,Option.some.injEq] at hd;subst hd;exact plain_rd rfl hr
  | 11,_ =>
   simp only [cExN,List.getElem?_cons_succ,List.getElem?_cons_zero,Option.some.injEq] at hd;subst hd
   exact tree_list hP (fun x hx=>ih x hx) hr
def PosV (v v':Value):Prop:=∃vs vs':Array Value,v=.agg vs∧v'=.agg vs'∧vs.size=15∧vs'.size=15∧(∀i,i < 12→vs'[i]?=vs[i]?)∧∀(i:Nat) u,12≤i→vs'[i]?=some u→isNumV u
theorem rd_agg_get {C:Pay Pl} {cx:Cx Pl} {v:Value} {cs:List (D Pl)} (h:RD C cx v (.agg cs)):∃vs:Array Value,v=.agg vs∧vs.size=cs.length∧(∀(i:Nat) u,vs[i]?=some u→u.oneCell'=true)∧∀(i:Nat) u c,vs[i]?=some u→cs[i]?=some c→RD C cx u c:=by
 cases h with
 | agg vs _ hs h1 hr=>exact ⟨vs,rfl,hs,h1,hr⟩
theorem tree_pos {F:Nat→Prop} {w w':World} (hP:RowW F w w') {e:ExprR} (hb:Bare e) {v v':Value} (hv:PosV v v') (h:RD X0.C (cxF F w) v (.agg (cExN e))):RD X0.C (cxF F w') v' (.agg (cExN e)):=by
 obtain ⟨vs,vs',rfl,rfl,s1,s2,h12,hn⟩:=hv
 obtain ⟨us,hu,hs,h1,hr⟩:=rd_agg_get h
 obtain rfl:vs=us:=by simpa using hu
 refine .agg vs' _ s2 (fun i u hu=>?_) fun i u c hu hc=>?_
 ·by_cases hi:i < 12
  ·rw [h12 i hi] at hu;exact h1 i u hu
  ·obtain ⟨n,rfl,_⟩:=hn i u (by omega) hu;rfl
 ·by_cases hi:i < 12
  ·rw [h12 i hi] at hu
   exact tree_cell hP hb i c u hi hc (hr i u c hu hc)
  ·obtain ⟨n,rfl,hR⟩:=hn i u (by omega) hu
   have hlt:i < 15:=by
    rcases Nat.lt_or_ge i 15 with h' | h'
    ·exact h'
    ·rw [List.getElem?_eq_none (by rw [cExN_len];exact h')] at hc;cases hc
   have:c=.num:=by
    match i,hi,hlt with
    | 12,_,_=>simpa [cExN] using hc.symm
    | 13,_,_=>simpa [cExN] using hc.symm
    | 14,_,_=>simpa [cExN] using hc.symm
   subst this
   exact .num _ hR
end Go.Proofs.YtcgbgcconigdbaaGreatDoor
namespace Go.Proofs.YtcgbgcconigdbaaGreatDoor.Mv
open Go.Eng Go.RowKit
set_option maxRecDepth 100000
noncomputable def X1:Ctx Pl:={ X0 with glob:=fun _=>none }
theorem xok1:XOk X1:=⟨xok.pay,xok.plain,xok.mixed⟩
noncomputable abbrev evC1 (n:Nat) (code:Code) (keep:List Nat) (S:St Pl):Option (Ex×St Pl) :=
 exec X1 (callK X1 F0 tell0 noTL n) noL code S (fun e S=>some (e,maskS (keepOf keep) S))
theorem goes_of1 {n:Nat} {code:Code} {keep:List Nat} {S S':St Pl} {e:Ex} (h:evC1 n code keep S=some (e,S')):Goes X1 code S e S':=by
 obtain ⟨e1,S1,h1,h2⟩:=body_goes xok1 fok (tell0_ok _) (noTL_ok _ _) (fun b _=>noL_ok _ b) h
 simp only [Option.some.injEq,Prod.mk.injEq] at h1
 obtain ⟨rfl,rfl⟩:=h1
 exact h2.post _
def seqL:Code→Code
 | .seq a _=>a
 | .block _ b=>b
 | .cond _ a _=>a
 | .loop b=>b
 | c=>c
def seqR:Code→Code
 | .seq _ b=>b
 | .cond _ _ b=>b
 | c=>c
def opsOf:Code→Array Oper
 | .region _ ops _=>ops
 | _=>#[]
def idOf:Code→Nat
 | .region id _ _=>id
 | .block id _=>id
 | _=>0
noncomputable def bodyOf (f:FuncId):Code:=match F0 f with
 | some fn=>fn.body.getD .skip
 | none=>.skip
noncomputable def mvB:Code:=bodyOf 68
noncomputable def mv0:Code:=seqL mvB
noncomputable def mv1:Code:=seqL (seqR mvB)
noncomputable def mv2:Code:=seqL (seqL (seqR (seqR mvB)))
noncomputable def mvBlk:Code:=seqR (seqL (seqR (seqR mvB)))
noncomputable def mvLp:Code:=seqL mvBlk
noncomputable def mvBd:Code:=seqL mvLp
noncomputable def mv3:Code:=seqL mvBd
noncomputable def mvB1:Code:=seqL (seqR (seqR mvBd))
noncomputable def mv4:Code:=seqL (seqL mvB1)
noncomputable def mv5:Code:=seqR (seqL mvB1)
noncomputable def mv6:Code:=seqR (seqR (seqR mvBd))
noncomputable def mv7:Code:=seqL (seqR (seqR (seqR mvB)))
structure RwE where
 v0:Value
 v1:Value
 v2:Value
 v3:Value
 v4:Value
 v5:Value
 v6:Value
 v7:Value
 v8:Value
 v9:Value
 va:Value
 vb:Value
 p0:Int
 p1:Int
 p2:Int
def cRw (r:RwE):List (D Pl):=[.lit r.v0,.lit r.v1,.lit r.v2,.lit r.v3,.lit r.v4,.lit r.v5,.lit r.v6,.lit r.v7,.lit r.v8,.lit r.v9,.lit r.va,.lit r.vb,dI r.p0,dI r.p1,dI r.p2]
def cP3 (p:PosR):List (D Pl):=[dI p.at',dI p.line,dI p.col]
def zC:List (D Pl):=[dI 0,.str [],.str [],dI 0,dI 0,.str [],.nilS,.nilS,dI 0,dI 0,.bool false,.nilS,dI 0,dI 0,dI 0]
def sM0 (r:RwE) (b:PosR):St Pl:=mkS 29 [(0,.agg (cRw r)),(1,.agg (cP3 b))] []
def mvR (r:RwE) (b:PosR):RwE:={ r with p0:=IntKind.i64.wrap (b.at'+r.p0),p1:=b.line,p2:=IntKind.i64.wrap (IntKind.i64.wrap (b.col+r.p2) - 1) }
def sM1 (r:RwE) (b:PosR):St Pl:=mkS 29 [(2,.ptr 2 0),(3,.ptr 3 0),(4,.ptr 4 0)] [(4,.box false zC),(3,.box false (cP3 b)),(2,.box false (cRw r))]
theorem eM0 (r:RwE) (b:PosR):evC1 0 mv0 [2,3,4] (sM0 r b)=some (.normal,sM1 r b):=by kernel_rfl
theorem eM1 (r:RwE) (b:PosR):evC1 3 mv1 [2,3,4] (sM1 r b)=some (.normal,sM1 (mvR r b) b):=by kernel_rfl
def gJ (w0 w:World) (rho:Nat→Option Nat) (hs:Obs Pl):Gh:=⟨w,fun b=>b < w0.heap.size,rho,fun b=>∃o ob,Eng.look hs o=some ob∧rho o=some b,fun _=>none⟩
structure J (F:Nat→Prop) (w0 wr:World) (S:St Pl) (a:Act) (w:World):Prop where
 pos:PosW F w0 w
 rows:RowW F wr w
 key:KeyIn S.tm (fun _=>False)
 sim:∃rho,Sim X1 (gJ w0 w rho S.hs) S.tm S.hs a w∧∀o ob b,Eng.look S.hs o=some ob→rho o=some b→w0.heap.size≤b
section
variable {F:Nat→Prop} {w0 wr:World} (hF:∀b,F b→b < w0.heap.size)
theorem J.rebase {S:St Pl} {a:Act} {w:World} (h:J F w0 wr S a w):J F w0 w S a w:=⟨h.pos,RowW.refl F w,h.key,h.sim⟩
include hF in
theorem J.next {hs:Obs Pl} {w:World} {rho:Nat→Option Nat} (hpos:PosW F w0 w) (hrow:RowW F wr w) (hown:∀o ob b,Eng.look hs o=some ob→rho o=some b→w0.heap.size≤b) {rho':Nat→Option Nat} {S':St Pl} {a':Act} {w':World}
  (h:Sim X1 { gJ w0 w rho hs with rho:=rho' } S'.tm S'.hs a' w') (hK:KeyIn S'.tm fun _=>False):J F w0 wr S' a' w':=by
 have hold:∀b,b < w0.heap.size→w'.heap[b]?=w.heap[b]?:=fun b hb=>h.below.block b (Nat.lt_of_lt_of_le hb hpos.size) fun ⟨o,ob,h1,h2⟩=>by
  have:=hown o ob b h1 h2
  omega
 have hrw:RowW F w w':=fun b cells T hFb hc=>⟨cells,by rw [hold b (hF b hFb)];exact hc,rfl,fun i v hv=>⟨fun _=>hv,fun hn=>⟨v,hv,hn⟩⟩⟩
 have hsz:=h.below.size
 have hsz:w.heap.size≤w'.heap.size:=hsz
 have hown':∀o ob b,Eng.look S'.hs o=some ob→rho' o=some b→w0.heap.size≤b:=fun o ob b ho hr=>by
  rcases (h.own o ob b ho hr).1 with h1 | ⟨o',ob',h1,h2⟩
  ·exact Nat.le_trans hpos.size h1
  ·exact hown o' ob' b h1 h2
 refine ⟨⟨h.below.os.trans hpos.os,h.below.tape.trans hpos.tape,h.below.output.trans hpos.output,Nat.le_trans hpos.size hsz,fun b hb hFb=>(hold b hb).trans (hpos.old b hb hFb),hpos.row.trans hrw,fun b cells T fz hc=>?_,fun b o hFb ho hn=>?_⟩,hrow.trans hrw,hK,rho',?_,hown'⟩
 ·obtain ⟨c1,T1,f1,h1,h2⟩:=hpos.sz b cells T fz hc
  exact ⟨c1,T1,f1,by rw [hold b (lt_of_heap hc)];exact h1,h2⟩
 ·rw [hold b (hF b hFb)]
  exact hpos.mp b o hFb ho hn
 ·refine ⟨h.size,h.tm,h.dfr,h.obs,h.inj,fun o ob b ho hr=>⟨.inr ⟨o,ob,ho,hr⟩,(h.own o ob b ho hr).2⟩,toL (BelowD.refl _ _),fun b hb=>?_,fun b ⟨o,ob,ho,hr⟩=>⟨(h.own o ob b ho hr).2,fun hb=>?_⟩,fun c b hc=>(by cases hc),fun i cs hg=>(by cases hg)⟩
  ·have hb:b < w0.heap.size:=hb
   have:=hpos.size
   show b < w'.heap.size
   omega
  ·have hb:b < w0.heap.size:=hb
   have:=hown' o ob b ho hr
   omega
include hF in
theorem J.code {code:Code} {S S':St Pl} {e:Ex} {a:Act} {w:World} {Q:Exit→Act→World→Prop} (hg:Goes X1 code S e S') (hJ:J F w0 wr S a w) (hQ:∀a' w',J F w0 wr S' a' w'→Q (toExit e) a' w'):code.wp X1.P Q a w:=by
 obtain ⟨hpos,hrow,hK,rho,hS,hown⟩:=hJ
 exact hg _ a w hS hK Q fun rho' a' w' hS' hK'=>hQ a' w' (J.next hF hpos hrow hown hS' hK')
include hF in
theorem J.op {n:Nat} {ops:Array Oper} {i:Nat} {o:Oper} {S S':St Pl} {a:Act} {w:World} {K:Act→World→Prop} {Q:Exit→Act→World→Prop} (ho:ops[i]?=some o) (hgn:o.guard=none) (hst:stepX X1 F0 tell0 noTL n ops i S=some S')
  (hJ:J F w0 wr S a w) (hK':∀a' w',J F w0 wr S' a' w'→K a' w'):wpOp X1.P ops Q i K a w:=by
 obtain ⟨hpos,hrow,hK,rho,hS,hown⟩:=hJ
 exact op_goes xok1 fok (tell0_ok _) (noTL_ok _ _) ho hgn hst hS hK fun rho' a' w' hS' hk'=>hK' a' w' (J.next hF hpos hrow hown hS' hk')
theorem J.put {S:St Pl} {a:Act} {w:World} (hJ:J F w0 wr S a w) {dst:Option Nat} {v:Value} {d:D Pl} (hd:∀cx:Cx Pl,RD X0.C cx v d):J F w0 wr ⟨putT S.tm dst d,S.hs⟩ (a.put dst v) w:=by
 obtain ⟨hpos,hrow,hK,rho,hS,hown⟩:=hJ
 have hng:∀ks b e,d≠.gd ks b e:=fun ks b e he=>by
  have:=hd (cx0 w0 fun _=>False)
  rw [he] at this
  exact this.noGd
 exact ⟨hpos,hrow,hK.put dst d fun ks b e he=>absurd he (hng ks b e),rho,hS.put (RG.of (hd _)) (fun ks b e he=>absurd he (hng ks b e)) hK fun _ _ h=>h,hown⟩
theorem J.rd {S:St Pl} {a:Act} {w:World} (hJ:J F w0 wr S a w) (x:Operand):∃cx:Cx Pl,RD X0.C cx (a.eval x) (evK X1 S.tm [] x):=by
 obtain ⟨hpos,hrow,hK,rho,hS,hown⟩:=hJ
 exact ⟨_,evK_sound xok1 hS (fun k hk=>by simp at hk) x⟩
theorem J.lit {S:St Pl} {a:Act} {w:World} (hJ:J F w0 wr S a w) {x:Operand} {v:Value} (h:evK X1 S.tm [] x=.lit v):a.eval x=v:=by
 obtain ⟨cx,hr⟩:=hJ.rd x
 rw [h] at hr
 generalize a.eval x=u at hr ⊢
 cases hr;rfl
theorem J.int {S:St Pl} {a:Act} {w:World} (hJ:J F w0 wr S a w) {x:Operand} {n:Int} (h:evK X1 S.tm [] x=dI n):a.eval x=.int .i64 n∧inR .i64 n=true:=by
 obtain ⟨cx,hr⟩:=hJ.rd x
 rw [h] at hr
 generalize a.eval x=v at hr ⊢
 unfold dI at hr
 cases hr with
 | int _ _ h=>exact ⟨rfl,h⟩
include hF in
theorem J.posw {S:St Pl} {a:Act} {w w1:World} (hJ:J F w0 wr S a w) (hP:PosW F w w1):J F w0 wr S a w1:=by
 obtain ⟨hpos,hrow,hK,rho,hS,hown⟩:=hJ
 have hkeep:∀b ob,w0.heap.size≤b→w.heap[b]?=some ob→w1.heap[b]?=some ob:=fun b ob hb ho=>by
  rw [hP.old b (lt_of_heap ho) fun h=>by have:=hF b h;omega];exact ho
 have hle:CxLe X1.C (fun _=>false) (cxOf (gJ w0 w rho S.hs) S.hs w) (cxOf (gJ w0 w1 rho S.hs) S.hs w1) :=
  ⟨fun b ob hav ho=>hkeep b ob (Nat.le_of_not_lt fun h=>hav (.inl h)) ho,fun b ob _ hav=>hav,fun _ _ _ h=>h,fun o b p _ h=>⟨p,h,rfl,rfl⟩,hP.sz⟩
 refine ⟨hpos.trans hP,hrow.trans hP.row,hK,rho,⟨hS.size,fun t=>?_,hS.dfr,fun o ob ho=>?_,hS.inj,fun o ob b ho hr=>⟨.inr ⟨o,ob,ho,hr⟩,Nat.lt_of_lt_of_le (hS.own o ob b ho hr).2 hP.size⟩,toL (BelowD.refl _ _),fun b hb=>?_,fun b ⟨o,ob,ho,hr⟩=>⟨Nat.lt_of_lt_of_le (hS.own o ob b ho hr).2 hP.size,fun hb=>?_⟩,fun c b hc=>(by cases hc),fun i cs hg=>(by cases hg)⟩,hown⟩
 ·have:=RG.kill xok1.pay hle (hS.tm t)
  rwa [kill_none] at this
 ·have:=ObRel.grow xok1.pay hle (b:=rho o) (fun b' ob' hr hb'=>hkeep b' ob' (hown o ob b' ho hr) hb') (hS.obs o ob ho)
  rwa [killOb_none] at this
 ·have hb:b < w0.heap.size:=hb
  have:=hpos.size
  have:=hP.size
  show b < w1.heap.size
  omega
 ·have hb:b < w0.heap.size:=hb
  have:=hown o ob b ho hr
  omega
end
theorem wpOp_hand {P:Program} {ops:Array Oper} {Q:Exit→Act→World→Prop} {i:Nat} {o:Oper} {K:Act→World→Prop} {a:Act} {w w':World} {v:Value} (ho:ops[i]?=some o) (hgn:o.guard=none) (hrun:(execOp a.eval o).run P w=.ok (.value v) w') (h:K (a.put o.dst v) w') :
  wpOp P ops Q i K a w:=by
 unfold wpOp
 simp only [ho]
 have hw:Region.wanted o (yielded ops a.tmps)=true:=by unfold Region.wanted;rw [hgn]
 rw [if_pos hw]
 refine .inl ?_
 unfold Oper.wp
 rw [hrun]
 exact h
theorem wpOp_skip {P:Program} {ops:Array Oper} {Q:Exit→Act→World→Prop} {i:Nat} {o:Oper} {K:Act→World→Prop} {a:Act} {w w':World} (ho:ops[i]?=some o) (hgn:o.guard=none) (hrun:(execOp a.eval o).run P w=.ok .skip w') (h:K (a.put o.dst undef) w') :
  wpOp P ops Q i K a w:=by
 unfold wpOp
 simp only [ho]
 have hw:Region.wanted o (yielded ops a.tmps)=true:=by unfold Region.wanted;rw [hgn]
 rw [if_pos hw]
 refine .inl ?_
 unfold Oper.wp
 rw [hrun]
 exact h
theorem wpOp_call {P:Program} {ops:Array Oper} {Q:Exit→Act→World→Prop} {i:Nat} {o:Oper} {K:Act→World→Prop} {a:Act} {w:World} {f:FuncId} {vs:Array Value} {Post:Value→World→Prop} (ho:ops[i]?=some o) (hgn:o.guard=none)
  (hrun:(execOp a.eval o).run P w=(callFunc f vs).run P w) (hc:CallOk P f vs w Post) (h:∀v w',Post v w'→K (a.put o.dst v) w'):wpOp P ops Q i K a w:=by
 unfold wpOp
 simp only [ho]
 have hw:Region.wanted o (yielded ops a.tmps)=true:=by unfold Region.wanted;rw [hgn]
 rw [if_pos hw]
 refine .inl ?_
 unfold Oper.wp
 rw [hrun]
 rcases hc with ⟨h1,h2⟩ | ⟨v,w',h1,h2⟩
 ·rw [h1]
  exact h2.mono fun e w' ⟨v,he,hp⟩=>by subst he;exact h v w' hp
 ·rw [h1];exact h v w' h2
end Go.Proofs.YtcgbgcconigdbaaGreatDoor.Mv
namespace Go.Proofs.YtcgbgcconigdbaaGreatDoor.Mv
open Go.Eng Go.RowKit
set_option maxRecDepth 100000
def opAt (ops:Array Oper) (i:Nat):Option (Op×Option Nat×Option (Nat×Bool)):=(ops[i]?).map fun o=>(o.op,o.dst,o.guard)
theorem opAt_some {ops:Array Oper} {i:Nat} {op:Op} {d:Option Nat} (h:opAt ops i=some (op,d,none)):∃o,ops[i]?=some o∧o.op=op∧o.dst=d∧o.guard=none:=by
 unfold opAt at h
 obtain ⟨o,h1,h2⟩:=Option.map_eq_some_iff.1 h
 simp only [Prod.mk.injEq] at h2
 exact ⟨o,h1,h2.1,h2.2.1,h2.2.2⟩
section
variable {P:Program} {a:Act} {w:World} {o:Oper}
theorem run_len {x:Operand} {t e:TypeId} {ad:Option Addr} {n c:Nat} (hop:o.op=.call ⟨.builtin .len,#[x],#[t]⟩) (hu:P.underlying t=some (.slice e)) (hx:a.eval x=.slice ad n c) :
  (execOp a.eval o).run P w=.ok (.value (.int .i64 n)) w:=by
 obtain ⟨dst,op,type,pos,after,guard⟩:=o
 simp only at hop
 subst hop
 have h1:(Builtin.len_ #[t] type #[a.eval x]).run P w=.ok (goInt n) w:=by rw [hx];simp [Builtin.len_,run_underlying hu]
 exact run_v (s:=Builtin.len_ #[t] type _) (v:=goInt n) (by simpa [hx] using h1)
theorem run_ix {x i:Operand} {t e:TypeId} {b off n c m:Nat} (hop:o.op=.indexAddr t x i) (hu:P.underlying t=some (.slice e)) (hsz:szO P e=some 15) (hx:a.eval x=.slice (some ⟨b,off,none⟩) n c) (hi:a.eval i=.int .i64 m) (hm:m < n) :
  (execOp a.eval o).run P w=.ok (.value (.pointer (some ⟨b,off+m * 15,none⟩))) w:=by
 obtain ⟨dst,op,type,pos,after,guard⟩:=o
 simp only at hop
 subst hop
 have h1:(Instr.indexAt t (a.eval x) (a.eval i)).run P w=.ok (.pointer (some ⟨b,off+m * 15,none⟩)) w:=by
  rw [hx,hi]
  simp [Instr.indexAt,asIntOf,run_underlying hu,run_sizeOf' P w hsz,add_zero',hm]
 exact run_v h1
theorem run_ld {x:Operand} {e:TypeId} {b q:Nat} (hop:o.op=.load e x) (hsh:shapeT P e=2) (hsz:szO P e=some 15) (hx:a.eval x=.pointer (some ⟨b,q,none⟩)) (f:Nat→Value) (hf:∀j,j < 15→w.cell? ⟨b,q+j,none⟩=some (f j)) :
  (execOp a.eval o).run P w=.ok (.value (.agg ((List.range 15).map f).toArray)) w:=by
 obtain ⟨dst,op,type,pos,after,guard⟩:=o
 simp only at hop
 subst hop
 have h1:(Instr.loadAt e (a.eval x)).run P w=.ok (.agg ((List.range 15).map f).toArray) w:=by
  rw [hx]
  have hr:=run_loadCells (P:=P) w ⟨b,q,none⟩ 15 f (fun j hj=>by rw [add_zero'];exact hf j hj)
  simp [Instr.loadAt,Instr.sureAddr,loadVar,run_isAgg2 P w hsh,run_sizeOf' P w hsz,hr]
 exact run_v h1
theorem run_st {x y:Operand} {e:TypeId} {b q:Nat} {cells vs:Array Value} {T:TypeId} (hop:o.op=.store e x y) (hsz:szO P e=some 15) (hx:a.eval x=.pointer (some ⟨b,q,none⟩)) (hy:a.eval y=.agg vs) (hs:vs.size=15) (h1:∀v∈vs.toList,v.oneCell'=true)
  (hh:w.heap[b]?=some (.cells cells T (0,0))) (hfit:q+15≤cells.size) :
  (execOp a.eval o).run P w=.ok .skip (w.setRow b (overV cells.toList q vs.toList).toArray):=by
 obtain ⟨dst,op,type,pos,after,guard⟩:=o
 simp only at hop
 subst hop
 have hlen:vs.toList.length=15:=by simpa using hs
 have hrun:=run_storeCells_at P b q T vs.toList 0 cells w hh (by omega) h1
 have hov:=overV_append vs.toList cells.toList q (by simp;omega)
 simp only [Nat.add_zero] at hrun
 rw [←hov] at hrun
 have hcl:(Value.agg vs).cells=vs:=rfl
 have:(Instr.storeAt e (a.eval x) (a.eval y)).run P w=.ok () (w.setRow b (overV cells.toList q vs.toList).toArray):=by
  rw [hx,hy]
  simp only [Instr.storeAt,Instr.sureAddr,Sem.run_bind,Sem.run_pure,Result.andThen_ok,szO_cells w hsz (show (Value.agg vs).cells.size=15 by rw [hcl,hs]),hcl]
  exact hrun
 simp [execOp,this]
theorem run_call2 {x y:Operand} {f:FuncId} {ts:Array TypeId} (hop:o.op=.call ⟨.value (.func f),#[x,y],ts⟩):(execOp a.eval o).run P w=(callFunc f #[a.eval x,a.eval y]).run P w:=by
 obtain ⟨dst,op,type,pos,after,guard⟩:=o
 simp only at hop
 subst hop
 simp [execOp,resolve,Deferred.ofValue,invoke,Act.eval]
end
theorem posW_set {F:Nat→Prop} {w:World} {b q:Nat} {cells vs:Array Value} {T:TypeId} (hFb:F b) (hh:w.heap[b]?=some (.cells cells T (0,0))) (hq:q % 15=0) (hs:vs.size=15) (hfit:q+15≤cells.size)
  (hsame:∀j v,j < 12→vs[j]?=some v→cells[q+j]?=some v) (hnum:∀(j:Nat) v,12≤j→vs[j]?=some v→isNumV v):PosW F w (w.setRow b (overV cells.toList q vs.toList).toArray):=by
 have hlen:vs.toList.length=15:=by simpa using hs
 have hov:=overV_append vs.toList cells.toList q (by simp;omega)
 have hsz:(overV cells.toList q vs.toList).toArray.size=cells.size:=by
  rw [hov];simp;omega
 refine ⟨rfl,rfl,rfl,by simp,fun x hx hn=>setRow_other w b x _ fun h=>hn (by rw [h];exact hFb),fun x c1 T1 hx hc=>?_,setRow_size_of hh hsz,fun x ob hx ho hn=>?_⟩
 ·by_cases hxb:x=b
  ·subst hxb
   rw [hh] at hc
   simp only [Option.some.injEq,Obj.cells.injEq] at hc
   obtain ⟨rfl,rfl,_⟩:=hc
   refine ⟨_,setRow_heap w x cells _ T (0,0) hh,hsz,fun i v hv=>?_⟩
   have hget:(overV cells.toList q vs.toList).toArray[i]?=if q≤i∧i < q+15 then vs[i - q]? else cells[i]?:=by
    rw [List.getElem?_toArray,overV_get _ _ _ _ (by simp;omega),hlen]
    by_cases hin:q≤i∧i < q+15
    ·rw [if_pos hin,if_pos hin];simp
    ·rw [if_neg hin,if_neg hin];simp
   rw [hget]
   by_cases hin:q≤i∧i < q+15
   ·rw [if_pos hin]
    have hj:vs[i - q]?=some (vs[i - q]'(by omega)):=by rw [Array.getElem?_eq_getElem]
    have hmod:i % 15=i - q:=by
     have:i=q+(i - q):=by omega
     rw [this,Nat.add_mod,hq,Nat.zero_add,Nat.mod_mod,Nat.mod_eq_of_lt (by omega)]
     omega
    refine ⟨fun h12=>?_,fun hn=>?_⟩
    ·have:=hsame (i - q) _ (by omega) hj
     rw [show q+(i - q)=i by omega,hv] at this
     rw [hj,this]
    ·rw [hj]
     by_cases h12:i - q < 12
     ·have:=hsame (i - q) _ h12 hj
      rw [show q+(i - q)=i by omega,hv] at this
      exact ⟨_,rfl,by rw [←Option.some.inj this];exact hn⟩
     ·exact ⟨_,rfl,hnum _ _ (by omega) hj⟩
   ·rw [if_neg hin]
    exact ⟨fun _=>hv,fun hn=>⟨v,hv,hn⟩⟩
  ·exact ⟨c1,by rw [setRow_other w b x _ hxb];exact hc,rfl,fun i v hv=>⟨fun _=>hv,fun hn=>⟨v,hv,hn⟩⟩⟩
 ·by_cases hxb:x=b
  ·subst hxb
   rw [hh] at ho
   exact absurd (Option.some.inj ho).symm (hn _ _)
  ·rw [setRow_other w b x _ hxb];exact ho
end Go.Proofs.YtcgbgcconigdbaaGreatDoor.Mv
namespace Go.Proofs.YtcgbgcconigdbaaGreatDoor.Mv
open Go.Eng Go.RowKit
set_option maxRecDepth 100000
theorem mvB_eq:mvB=.seq mv0 (.seq mv1 (.seq (.seq mv2 mvBlk) (.seq mv7 .ret))):=by kernel_rfl
theorem mv2_eq:mv2=.region 2 (opsOf mv2) false:=by kernel_rfl
theorem mvBlk_eq:mvBlk=.block 0 (.loop mvBd):=by kernel_rfl
theorem mvBd_eq:mvBd=.seq mv3 (.seq (.cond (.tmp 16) .skip (.exit 0)) (.seq (.block 1 (.seq mv4 mv5)) mv6)):=by kernel_rfl
theorem mv4_eq:mv4=.region 4 (opsOf mv4) false:=by kernel_rfl
theorem mv5_eq:mv5=.region 5 (opsOf mv5) true:=by kernel_rfl
theorem sl_eq:X1.P.underlying 29=some (.slice 33):=by kernel_rfl
theorem sz_eq:szO X1.P 33=some 15:=by kernel_rfl
theorem sh_eq:shapeT X1.P 33=2:=by kernel_rfl
def slM (r:RwE) (n i:Nat):List (Nat×D Pl):=[(2,.ptr 2 0),(3,.ptr 3 0),(4,.ptr 4 0),(13,.lit r.vb),(14,dI n),(15,dI i)]
def obM (r:RwE) (b:PosR):Obs Pl:=[(4,.box false zC),(3,.box false (cP3 b)),(2,.box false (cRw r))]
def sM2 (r:RwE) (b:PosR) (n i:Nat):St Pl:=mkS 29 (slM r n i) (obM r b)
def sA (r:RwE) (b:PosR):St Pl:=mkS 29 [(2,.ptr 2 0),(3,.ptr 3 0),(4,.ptr 4 0),(12,.ptr 2 11)] (obM r b)
def sB (r:RwE) (b:PosR):St Pl:=mkS 29 [(2,.ptr 2 0),(3,.ptr 3 0),(4,.ptr 4 0),(12,.ptr 2 11),(13,.lit r.vb)] (obM r b)
def sC (r:RwE) (b:PosR) (n:Nat):St Pl:=mkS 29 [(2,.ptr 2 0),(3,.ptr 3 0),(4,.ptr 4 0),(12,.ptr 2 11),(13,.lit r.vb),(14,dI n)] (obM r b)
def sD (r:RwE) (b:PosR) (n:Nat):St Pl:=mkS 29 [(2,.ptr 2 0),(3,.ptr 3 0),(4,.ptr 4 0),(12,.ptr 2 11),(13,.lit r.vb),(14,dI n),(15,dI 0)] (obM r b)
theorem eA (r:RwE) (b:PosR):stepX X1 F0 tell0 noTL 0 (opsOf mv2) 0 (sM1 r b)=some (sA r b):=by kernel_rfl
theorem eB (r:RwE) (b:PosR):stepX X1 F0 tell0 noTL 0 (opsOf mv2) 1 (sA r b)=some (sB r b):=by kernel_rfl
theorem eC (r:RwE) (b:PosR) (n:Nat):(⟨putT (sB r b).tm (some 14) (dI n),(sB r b).hs⟩:St Pl)=sC r b n:=by kernel_rfl
theorem eD (r:RwE) (b:PosR) (n:Nat):stepX X1 F0 tell0 noTL 0 (opsOf mv2) 3 (sC r b n)=some (sD r b n):=by kernel_rfl
theorem eD2 (r:RwE) (b:PosR) (n:Nat):maskS (keepOf [2,3,4,13,14,15]) (sD r b n)=sM2 r b n 0:=by kernel_rfl
section
variable {F:Nat→Prop} {w0 wr:World} (hF:∀b,F b→b < w0.heap.size)
include hF in
theorem J.op' {n:Nat} {ops:Array Oper} (hall:ops.all (fun o=>o.guard.isNone)=true) {i:Nat} (hi:i < ops.size) {S S':St Pl} {a:Act} {w:World} {K:Act→World→Prop} {Q:Exit→Act→World→Prop} (hst:stepX X1 F0 tell0 noTL n ops i S=some S')
  (hJ:J F w0 wr S a w) (hK':∀a' w',J F w0 wr S' a' w'→K a' w'):wpOp X1.P ops Q i K a w :=
 hJ.op hF (o:=ops[i]) (by simp [hi]) (by simpa using (Array.all_eq_true'.1 hall) ops[i] (Array.getElem_mem hi)) hst hK'
theorem J.mask {S:St Pl} {a:Act} {w:World} (hJ:J F w0 wr S a w) (keep:List Nat):J F w0 wr (maskS (keepOf keep) S) a w:=by
 obtain ⟨hpos,hrow,hK,rho,hS,hown⟩:=hJ
 exact ⟨hpos,hrow,hK.mask (keepOf keep),rho,Sim.mask (keepOf keep) hS,hown⟩
theorem g2:(opsOf mv2).all (fun o=>o.guard.isNone)=true:=by kernel_rfl
theorem z2:(opsOf mv2).size=4:=by kernel_rfl
theorem o2:opAt (opsOf mv2) 2=some (.call ⟨.builtin .len,#[.tmp 13],#[29]⟩,some 14,none):=by kernel_rfl
theorem inR_nat {n:Nat} (h:n≤big):inR .i64 (n:Int)=true:=inR_len h
include hF in
theorem mv2_goes {r:RwE} {b:PosR} {n c:Nat} {ad:Option Addr} (hv:r.vb=.slice ad n c) (hn:n≤big) {a:Act} {w:World} (hJ:J F w0 wr (sM1 r b) a w) {Q:Exit→Act→World→Prop} (hQ:∀a' w',J F w0 wr (sM2 r b n 0) a' w'→Q .normal a' w'):mv2.wp X1.P Q a w:=by
 rw [mv2_eq]
 refine wp_lex (fun i a w=>match i with
  | 0=>J F w0 wr (sM1 r b) a w
  | 1=>J F w0 wr (sA r b) a w
  | 2=>J F w0 wr (sB r b) a w
  | 3=>J F w0 wr (sC r b n) a w
  | _=>J F w0 wr (sD r b n) a w) (fun i hi a w hI K hK=>?_) (fun a w hI=>?_) hJ
 ·rw [z2] at hi
  match i,hi,hI with
  | 0,_,hI=>exact J.op' hF g2 (by rw [z2];omega) (eA r b) hI hK
  | 1,_,hI=>exact J.op' hF g2 (by rw [z2];omega) (eB r b) hI hK
  | 2,_,hI =>
   have hI:J F w0 wr (sB r b) a w:=hI
   obtain ⟨o,h1,h2,h3,h4⟩:=opAt_some o2
   have hev:a.eval (.tmp 13)=.slice ad n c:=by rw [hI.lit (v:=r.vb) (by kernel_rfl),hv]
   refine wpOp_hand h1 h4 (run_len h2 sl_eq hev) (hK _ _ ?_)
   rw [h3]
   have:=hI.put (dst:=some 14) (v:=.int .i64 n) (d:=dI n) fun cx=>.int _ _ (inR_nat hn)
   rw [eC] at this
   exact this
  | 3,_,hI=>exact J.op' hF g2 (by rw [z2];omega) (eD r b n) hI hK
 ·rw [z2] at hI
  refine hQ a w ?_
  have hI:J F w0 wr (sD r b n) a w:=hI
  have:=hI.mask [2,3,4,13,14,15]
  rw [eD2] at this
  exact this
def RwE.of (us:Array Value) (p:PosR):RwE:=⟨us.getD 0 undef,us.getD 1 undef,us.getD 2 undef,us.getD 3 undef,us.getD 4 undef,us.getD 5 undef,us.getD 6 undef,us.getD 7 undef,us.getD 8 undef,us.getD 9 undef,us.getD 10 undef,us.getD 11 undef,p.at',p.line,p.col⟩
theorem rd_row {us vs:Array Value} {p:PosR} (hs:vs.size=15) (hv:∀j,j < 12→vs[j]?=some (us.getD j undef)) (h0:vs[12]?=some (.int .i64 p.at')) (h1:vs[13]?=some (.int .i64 p.line)) (h2:vs[14]?=some (.int .i64 p.col))
  (hr:inR .i64 p.at'=true∧inR .i64 p.line=true∧inR .i64 p.col=true) (hone:∀(j:Nat) v,vs[j]?=some v→v.oneCell'=true) (cx:Cx Pl):RD X0.C cx (.agg vs) (.agg (cRw (RwE.of us p))):=by
 refine .agg vs _ hs hone fun i v c hi hc=>?_
 have hlt:i < 15:=by
  rcases Nat.lt_or_ge i 15 with h | h
  ·exact h
  ·rw [Array.getElem?_eq_none (by omega)] at hi;cases hi
 match i,hlt with
 | 0,_=>rw [hv 0 (by omega)] at hi;simp only [cRw,List.getElem?_cons_zero,Option.some.injEq] at hi hc;subst hi hc;exact .lit _
 | 1,_=>rw [hv 1 (by omega)] at hi;simp only [cRw,List.getElem?_cons_succ,List.getElem?_cons_zero,Option.some.injEq] at hi hc;subst hi hc;exact .lit _
 | 2,_=>rw [hv 2 (by omega)] at hi;simp only [cRw,List.getElem?_cons_succ,List.getElem?_cons_zero,Option.some.injEq] at hi hc;subst hi hc;exact .lit _
 | 3,_=>rw [hv 3 (by omega)] at hi;simp only [cRw,List.getElem?_cons_succ,List.getElem?_cons_zero,Option.some.injEq] at hi hc;subst hi hc;exact .lit _
 | 4,_=>rw [hv 4 (by omega)] at hi;simp only [cRw,List.getElem?_cons_succ,List.getElem?_cons_zero,Option.some.injEq] at hi hc;subst hi hc;exact .lit _
 | 5,_=>rw [hv 5 (by omega)] at hi;simp only [cRw,List.getElem?_cons_succ,List.getElem?_cons_zero,Option.some.injEq] at hi hc;subst hi hc;exact .lit _
 | 6,_=>rw [hv 6 (by omega)] at hi;simp only [cRw,List.getElem?_cons_succ,List.getElem?_cons_zero,Option.some.injEq] at hi hc;subst hi hc;exact .lit _
 | 7,_=>rw [hv 7 (by omega)] at hi;simp only [cRw,List.getElem?_cons_succ,List.getElem?_cons_zero,Option.some.injEq] at hi hc;subst hi hc;exact .lit _
 | 8,_=>rw [hv 8 (by omega)] at hi;simp only [cRw,List.getElem?_cons_succ,List.getElem?_cons_zero,Option.some.injEq] at hi hc;subst hi hc;exact .lit _
 | 9,_=>rw [hv 9 (by omega)] at hi;simp only [cRw,List.getElem?_cons_succ,List.getElem?_cons_zero,Option.some.injEq] at hi hc;subst hi hc;exact .lit _
 | 10,_=>rw [hv 10 (by omega)] at hi;simp only [cRw,List.getElem?_cons_succ,List.getElem?_cons_zero,Option.some.injEq] at hi hc;subst hi hc;exact .lit _
 | 11,_=>rw [hv 11 (by omega)] at hi;simp only [cRw,List.getElem?_cons_succ,List.getElem?_cons_zero,Option.some.injEq] at hi hc;subst hi hc;exact .lit _
 | 12,_=>rw [h0] at hi;simp only [cRw,List.getElem?_cons_succ,List.getElem?_cons_zero,Option.some.injEq] at hi hc;subst hi hc;exact .int _ _ hr.1
 | 13,_=>rw [h1] at hi;simp only [cRw,List.getElem?_cons_succ,List.getElem?_cons_zero,Option.some.injEq] at hi hc;subst hi hc;exact .int _ _ hr.2.1
 | 14,_=>rw [h2] at hi;simp only [cRw,List.getElem?_cons_succ,List.getElem?_cons_zero,Option.some.injEq] at hi hc;subst hi hc;exact .int _ _ hr.2.2
theorem row_rd {us:Array Value} {p:PosR} {v:Value} {cx:Cx Pl} (h:RD X0.C cx v (.agg (cRw (RwE.of us p)))):∃vs:Array Value,v=.agg vs∧vs.size=15∧(∀j,j < 12→vs[j]?=some (us.getD j undef))∧(∀(j:Nat) u,12≤j→vs[j]?=some u→isNumV u)∧∀(j:Nat) u,vs[j]?=some u→u.oneCell'=true:=by
 obtain ⟨vs,rfl,hs,h1,hr⟩:=rd_agg_get h
 have hs:vs.size=15:=hs
 have lit:∀(j:Nat) u x,vs[j]?=some u→(cRw (RwE.of us p))[j]?=some (.lit x)→u=x:=fun j u x hu hc=>by
  have:=hr j u _ hu hc
  cases this;rfl
 have num:∀(j:Nat) u x,vs[j]?=some u→(cRw (RwE.of us p))[j]?=some (dI x)→isNumV u:=fun j u x hu hc=>by
  have:=hr j u _ hu hc
  unfold dI at this
  cases this with
  | int _ _ h=>exact ⟨x,rfl,h⟩
 refine ⟨vs,rfl,hs,fun j hj=>?_,fun j u hj hu=>?_,h1⟩
 ·have hu:vs[j]?=some (vs[j]'(by omega)):=Array.getElem?_eq_getElem _
  rw [hu]
  congr 1
  match j,hj,hu with
  | 0,_,hu=>exact lit 0 _ _ hu rfl
  | 1,_,hu=>exact lit 1 _ _ hu rfl
  | 2,_,hu=>exact lit 2 _ _ hu rfl
  | 3,_,hu=>exact lit 3 _ _ hu rfl
  | 4,_,hu=>exact lit 4 _ _ hu rfl
  | 5,_,hu=>exact lit 5 _ _ hu rfl
  | 6,_,hu=>exact lit 6 _ _ hu rfl
  | 7,_,hu=>exact lit 7 _ _ hu rfl
  | 8,_,hu=>exact lit 8 _ _ hu rfl
  | 9,_,hu=>exact lit 9 _ _ hu rfl
  | 10,_,hu=>exact lit 10 _ _ hu rfl
  | 11,_,hu=>exact lit 11 _ _ hu rfl
 ·have hlt:j < 15:=by
   rcases Nat.lt_or_ge j 15 with h | h
   ·exact h
   ·rw [Array.getElem?_eq_none (by omega)] at hu;cases hu
  match j,hj,hlt,hu with
  | 12,_,_,hu=>exact num 12 _ _ hu rfl
  | 13,_,_,hu=>exact num 13 _ _ hu rfl
  | 14,_,_,hu=>exact num 14 _ _ hu rfl
end
end Go.Proofs.YtcgbgcconigdbaaGreatDoor.Mv
