/-
 A TREE WITH ITS PLACES TURNED: its loop, its contract.
-/
import Derived.Test.YtcgbgcconigdbaaGreatDoorMoved3
namespace Go.Proofs.YtcgbgcconigdbaaGreatDoor.Mv
open Go.Eng Go.RowKit
set_option maxRecDepth 100000
def s4a (r:RwE) (b:PosR) (n i:Nat):St Pl:=mkS 29 (slM r n i++[(17,dI i)]) (obM r b)
def s4b (r:RwE) (b:PosR) (n i:Nat) (v:Value):St Pl:=mkS 29 (slM r n i++[(17,dI i),(18,.lit v)]) (obM r b)
def s4c (r:RwE) (b:PosR) (n i:Nat) (v:Value) (x:RwE):St Pl:=mkS 29 (slM r n i++[(17,dI i),(18,.lit v),(19,.agg (cRw x))]) (obM r b)
def s4d (r:RwE) (b:PosR) (n i:Nat) (v:Value) (x:RwE):St Pl:=mkS 29 (slM r n i++[(17,dI i),(18,.lit v),(19,.agg (cRw x)),(6,.ptr 6 0)]) ((6,.box false zC)::obM r b)
def s4e (r:RwE) (b:PosR) (n i:Nat) (v:Value) (x:RwE):St Pl:=mkS 29 (slM r n i++[(17,dI i),(18,.lit v),(19,.agg (cRw x)),(6,.ptr 6 0),(5,dI i)]) ((6,.box false zC)::obM r b)
def s4f (r:RwE) (b:PosR) (n i:Nat) (v:Value) (x:RwE):St Pl:=mkS 29 (slM r n i++[(17,dI i),(18,.lit v),(19,.agg (cRw x)),(6,.ptr 6 0),(5,dI i)]) ((6,.box false (cRw x))::obM r b)
theorem e4a (r:RwE) (b:PosR) (n i:Nat):stepX X1 F0 tell0 noTL 0 (opsOf mv4) 0 (sM2 r b n i)=some (s4a r b n i):=by kernel_rfl
theorem e4b (r:RwE) (b:PosR) (n i:Nat) (v:Value):(⟨putT (s4a r b n i).tm (some 18) (.lit v),(s4a r b n i).hs⟩:St Pl)=s4b r b n i v:=by kernel_rfl
theorem e4c (r:RwE) (b:PosR) (n i:Nat) (v:Value) (x:RwE):(⟨putT (s4b r b n i v).tm (some 19) (.agg (cRw x)),(s4b r b n i v).hs⟩:St Pl)=s4c r b n i v x:=by kernel_rfl
theorem e4d (r:RwE) (b:PosR) (n i:Nat) (v:Value) (x:RwE):stepX X1 F0 tell0 noTL 0 (opsOf mv4) 3 (s4c r b n i v x)=some (s4d r b n i v x):=by kernel_rfl
theorem e4e (r:RwE) (b:PosR) (n i:Nat) (v:Value) (x:RwE):stepX X1 F0 tell0 noTL 0 (opsOf mv4) 4 (s4d r b n i v x)=some (s4e r b n i v x):=by kernel_rfl
theorem e4f (r:RwE) (b:PosR) (n i:Nat) (v:Value) (x:RwE):stepX X1 F0 tell0 noTL 0 (opsOf mv4) 5 (s4e r b n i v x)=some (s4f r b n i v x):=by kernel_rfl
theorem g4:(opsOf mv4).all (fun o=>o.guard.isNone)=true:=by kernel_rfl
theorem z4:(opsOf mv4).size=6:=by kernel_rfl
theorem o41:opAt (opsOf mv4) 1=some (.indexAddr 29 (.tmp 13) (.tmp 15),some 18,none):=by kernel_rfl
theorem o42:opAt (opsOf mv4) 2=some (.load 33 (.tmp 18),some 19,none):=by kernel_rfl
def slF (m:Nat) (r x:RwE) (b:PosR) (y:RwE) (v:Value) (n i:Nat):List (Nat×D Pl) :=
 slM r n i++([(5,dI i),(6,.ptr 6 0)]++((bif m.testBit 0 then [(20,.ptr 2 11)] else [])++((bif m.testBit 1 then [(21,.lit r.vb)] else [])++((bif m.testBit 2 then [(22,dI i)] else [])++((bif m.testBit 3 then [(23,.agg (cRw x))] else []) ++
  ((bif m.testBit 4 then [(24,.agg (cP3 b))] else [])++((bif m.testBit 5 then [(25,.agg (cRw y))] else [])++(bif m.testBit 6 then [(26,.lit v)] else []))))))))
def sF (m:Nat) (r x:RwE) (b:PosR) (y:RwE) (v:Value) (n i:Nat):St Pl:=mkS 29 (slF m r x b y v n i) ((6,.box false (cRw x))::obM r b)
theorem e4z (r:RwE) (b:PosR) (n i:Nat) (v:Value) (x y:RwE):maskS (keepOf [2,3,4,13,14,15,5,6]) (s4f r b n i v x)=sF 0 r x b y v n i:=by kernel_rfl
def tab5:List Nat:=[0,16,8,4,1,24,20,17,12,9,5,3,56,28,25,21,19,13,11,7,60,57,29,27,23,15,61,59,31,63,127,255]
theorem t5_ok:tabN (opsOf mv5) tab5 255=true:=by kernel_rfl
def early (l:List (Nat×Nat)):List (Nat×Nat):=l.filter fun q=>Nat.blt q.2 5
theorem e5 (r x:RwE) (b:PosR) (y:RwE) (v:Value) (n i:Nat):(early (pairsN (opsOf mv5) tab5)).map (fun q=>stepX X1 F0 tell0 noTL 0 (opsOf mv5) q.2 (sF q.1 r x b y v n i))=(early (pairsN (opsOf mv5) tab5)).map (fun q=>some (sF (q.1+2 ^ q.2) r x b y v n i)):=by kernel_rfl
def fives (l:List (Nat×Nat)):List Nat:=(l.filter fun q=>Nat.beq q.2 5).map (·.1)
theorem e5c:fives (pairsN (opsOf mv5) tab5)=[24,28,25,29,27,31]:=by kernel_rfl
theorem e5p (r x:RwE) (b:PosR) (y y':RwE) (v:Value) (n i:Nat):[24,28,25,29,27,31].map (fun m=>(⟨putT (sF m r x b y v n i).tm (some 25) (.agg (cRw y')),(sF m r x b y v n i).hs⟩:St Pl))=[24,28,25,29,27,31].map (fun m=>sF (m+2 ^ 5) r x b y' v n i):=by kernel_rfl
theorem e5x (r x:RwE) (b:PosR) (y:RwE) (v:Value) (n i:Nat):[24,28,25,29,27,31].map (fun m=>(evK X1 (sF m r x b y v n i).tm [] (.tmp 23),evK X1 (sF m r x b y v n i).tm [] (.tmp 24)))=[24,28,25,29,27,31].map (fun _=>(.agg (cRw x),.agg (cP3 b))):=by kernel_rfl
theorem e5s:(pairsN (opsOf mv5) tab5).filter (fun q=>Nat.beq q.2 6)=[(63,6)]:=by kernel_rfl
theorem e5t:(pairsN (opsOf mv5) tab5).filter (fun q=>Nat.beq q.2 7)=[(127,7)]:=by kernel_rfl
theorem e5u:(pairsN (opsOf mv5) tab5).all (fun q=>Nat.blt q.2 8)=true:=by kernel_rfl
theorem e56 (r x:RwE) (b:PosR) (y:RwE) (v:Value) (n i:Nat):(⟨putT (sF 63 r x b y v n i).tm (some 26) (.lit v),(sF 63 r x b y v n i).hs⟩:St Pl)=sF 127 r x b y v n i:=by kernel_rfl
theorem e57 (r x:RwE) (b:PosR) (y:RwE) (v:Value) (n i:Nat):sF 127 r x b y v n i=sF 255 r x b y v n i:=by kernel_rfl
theorem g5:(opsOf mv5).all (fun o=>o.guard.isNone)=true:=by kernel_rfl
theorem z5:(opsOf mv5).size=8:=by kernel_rfl
theorem o55:opAt (opsOf mv5) 5=some (.call ⟨.value (.func 68),#[.tmp 23,.tmp 24],#[33,31]⟩,some 25,none):=by kernel_rfl
theorem o56:opAt (opsOf mv5) 6=some (.indexAddr 29 (.tmp 21) (.tmp 22),some 26,none):=by kernel_rfl
theorem o57:opAt (opsOf mv5) 7=some (.store 33 (.tmp 26) (.tmp 25),none,none):=by kernel_rfl
end Go.Proofs.YtcgbgcconigdbaaGreatDoor.Mv
namespace Go.Proofs.YtcgbgcconigdbaaGreatDoor.Mv
open Go.Eng Go.RowKit
set_option maxRecDepth 100000
def MvdOk (e:ExprR):Prop:=∀(w:World) (F:Nat→Prop) (v base:Value),(∀b,F b→b < w.heap.size)→RD X0.C (cxF F w) v (.agg (cExN e))→(∀cx:Cx Pl,RD X0.C cx base (.agg [.num,.num,.num])) →
 CallOk X0.P 68 #[v,base] w fun v' w'=>PosW F w w'∧PosV v v'
theorem map_mem {A B:Type} {l:List A} {f g:A→B} (h:l.map f=l.map g) {x:A} (hx:x∈l):f x=g x:=List.map_inj_left.1 h x hx
section
variable {F:Nat→Prop} {w0:World} (hF:∀b,F b→b < w0.heap.size)
structure RowAt (F:Nat→Prop) (wl:World) (x:ExprR) (us:Array Value) (bb q:Nat):Prop where
 inF:F bb
 al:q % 15=0
 cells:∃cells T,wl.heap[bb]?=some (.cells cells T (0,0))∧(∀j,j < 12→cells[q+j]?=some (us.getD j undef))∧q+15≤cells.size
 rd:∀(j:Nat) d,j < 12→(cExN x)[j]?=some d→RD X0.C (cxF F wl) (us.getD j undef) d
include hF in
theorem mv4_goes {wr:World} {r:RwE} {b:PosR} {n i c bb off:Nat} {l:List ExprR} (hv:r.vb=.slice (some ⟨bb,off,none⟩) n c) (hi:i < n) {a:Act} {w:World} (hJ:J F w0 wr (sM2 r b n i) a w) (htr:∀w',RowW F w w'→RD X0.C (cxF F w') r.vb (.pl (pExprs l) .any))
  {Q:Exit→Act→World→Prop} (hQ:∀a' w' wl us p,J F w0 wl (sF 0 r (RwE.of us p) b (RwE.of us p) (.pointer (some ⟨bb,off+i * 15,none⟩)) n i) a' w'→RowAt F wl (l.getD i default) us bb (off+i * 15)→RowW F w wl→Q .normal a' w'):mv4.wp X1.P Q a w:=by
 rw [mv4_eq]
 refine wp_lex (fun k a w'=>match k with
  | 0=>J F w0 w (sM2 r b n i) a w'
  | 1=>J F w0 w (s4a r b n i) a w'
  | 2=>J F w0 w (s4b r b n i (.pointer (some ⟨bb,off+i * 15,none⟩))) a w'
  | 3=>∃wl us p,J F w0 wl (s4c r b n i (.pointer (some ⟨bb,off+i * 15,none⟩)) (RwE.of us p)) a w'∧RowAt F wl (l.getD i default) us bb (off+i * 15)∧RowW F w wl
  | 4=>∃wl us p,J F w0 wl (s4d r b n i (.pointer (some ⟨bb,off+i * 15,none⟩)) (RwE.of us p)) a w'∧RowAt F wl (l.getD i default) us bb (off+i * 15)∧RowW F w wl
  | 5=>∃wl us p,J F w0 wl (s4e r b n i (.pointer (some ⟨bb,off+i * 15,none⟩)) (RwE.of us p)) a w'∧RowAt F wl (l.getD i default) us bb (off+i * 15)∧RowW F w wl
  | _=>∃wl us p,J F w0 wl (s4f r b n i (.pointer (some ⟨bb,off+i * 15,none⟩)) (RwE.of us p)) a w'∧RowAt F wl (l.getD i default) us bb (off+i * 15)∧RowW F w wl) (fun k hk a' w' hI K hK=>?_) (fun a' w' hI=>?_) hJ.rebase
 ·rw [z4] at hk
  match k,hk,hI with
  | 0,_,hI=>exact J.op' hF g4 (by rw [z4];omega) (e4a r b n i) hI hK
  | 1,_,hI =>
   have hI:J F w0 w (s4a r b n i) a' w':=hI
   obtain ⟨o,h1,h2,h3,h4⟩:=opAt_some o41
   have hev:a'.eval (.tmp 13)=.slice (some ⟨bb,off,none⟩) n c:=by rw [hI.lit (v:=r.vb) (by kernel_rfl),hv]
   have hev2:a'.eval (.tmp 15)=.int .i64 i:=(hI.int (n:=i) (by kernel_rfl)).1
   refine wpOp_hand h1 h4 (run_ix h2 sl_eq sz_eq hev hev2 hi) (hK _ _ ?_)
   rw [h3]
   have:=hI.put (dst:=some 18) (v:=.pointer (some ⟨bb,off+i * 15,none⟩)) (d:=.lit _) fun cx=>.lit _
   rw [e4b] at this
   exact this
  | 2,_,hI =>
   have hI:J F w0 w (s4b r b n i (.pointer (some ⟨bb,off+i * 15,none⟩))) a' w':=hI
   obtain ⟨o,h1,h2,h3,h4⟩:=opAt_some o42
   have hev:a'.eval (.tmp 18)=.pointer (some ⟨bb,off+i * 15,none⟩):=hI.lit (by kernel_rfl)
   have ht:=htr w' hI.rows
   rw [hv] at ht
   cases ht with
   | pl0 _ _ _ _ hl hk=>omega
   | pl _ _ _ _ _ _ vs hn hc hb hk hav hcell hone hrd hsp hal =>
    have hn:n=l.length:=hn
    obtain ⟨ha,cells,T,hh⟩:=hal rfl
    have ha:off % 15=0:=ha
    have hh:w'.heap[bb]?=some (.cells cells T (0,0)):=hh
    have hel:∀j,j < 15→∃d,(X0.C.elem (pExprs l) i)[j]?=some d:=fun j hj=>⟨_,List.getElem?_eq_getElem (by rw [elem_N,cExN_len];exact hj)⟩
    have hf:∀j,j < 15→w'.cell? ⟨bb,off+i * 15+j,none⟩=some (vs i j):=fun j hj=>by
     obtain ⟨d,hd⟩:=hel j hj
     have:=hcell i j d hi hd
     rw [Nat.add_assoc]
     exact this
    have hnum:∀j,12≤j→j < 15→isNumV (vs i j):=fun j h12 hj=>by
     obtain ⟨d,hd⟩:=hel j hj
     have hr:=hrd i j d hi hd
     rw [elem_N] at hd
     have:d=.num:=by
      match j,h12,hj with
      | 12,_,_=>simpa [cExN] using hd.symm
      | 13,_,_=>simpa [cExN] using hd.symm
      | 14,_,_=>simpa [cExN] using hd.symm
     subst this
     generalize vs i j=v at hr
     cases hr with
     | num n hn=>exact ⟨n,rfl,hn⟩
    obtain ⟨p0,hp0,hr0⟩:=hnum 12 (by omega) (by omega)
    obtain ⟨p1,hp1,hr1⟩:=hnum 13 (by omega) (by omega)
    obtain ⟨p2,hp2,hr2⟩:=hnum 14 (by omega) (by omega)
    have hget:∀j,j < 15→(((List.range 15).map (vs i)).toArray)[j]?=some (vs i j):=fun j hj=>by simp [hj]
    have hgd:∀j,j < 15→(((List.range 15).map (vs i)).toArray).getD j undef=vs i j:=fun j hj=>by rw [Array.getD_eq_getD_getElem?,hget j hj];rfl
    refine wpOp_hand h1 h4 (run_ld h2 sh_eq sz_eq hev (vs i) hf) (hK _ _ ?_)
    rw [h3]
    refine ⟨w',((List.range 15).map (vs i)).toArray,⟨p0,p1,p2⟩,?_,⟨Classical.byContradiction hav,by rw [Nat.add_mul_mod_self_right];exact ha,⟨cells,T,hh,fun j hj=>?_,?_⟩,?_⟩,hI.rows⟩
    ·have:=hI.rebase.put (dst:=some 19) (v:=.agg ((List.range 15).map (vs i)).toArray) (d:=.agg (cRw (RwE.of ((List.range 15).map (vs i)).toArray ⟨p0,p1,p2⟩))) (rd_row (by simp) (fun j hj=>by rw [hget j (by omega),hgd j (by omega)]) (by rw [hget 12 (by omega),hp0]) (by rw [hget 13 (by omega),hp1]) (by rw [hget 14 (by omega),hp2]) ⟨hr0,hr1,hr2⟩ (fun j v hj=>by
      have hlt:j < 15:=by
       rcases Nat.lt_or_ge j 15 with h | h
       ·exact h
       ·rw [Array.getElem?_eq_none (by simp;omega)] at hj;cases hj
      rw [hget j hlt] at hj
      obtain ⟨d,hd⟩:=hel j hlt
      have:=hone i j d hi hd
      rw [←Option.some.inj hj]
      exact this))
     rw [e4c] at this
     exact this
    ·have:=hf j (by omega)
     rw [cell_at (w:=w') hh] at this
     rw [this,hgd j (by omega)]
    ·have:=hf 14 (by omega)
     rw [cell_at (w:=w') hh] at this
     have:=(Array.getElem?_eq_some_iff.1 this).1
     omega
    ·intro j d hj hd
     rw [hgd j (by omega)]
     exact hrd i j d hi (by rw [elem_N];exact hd)
  | 3,_,hI =>
   obtain ⟨wl,us,p,hI,h1,h2⟩:=hI
   exact J.op' hF g4 (by rw [z4];omega) (e4d r b n i _ _) hI fun a' w' h=>hK _ _ ⟨wl,us,p,h,h1,h2⟩
  | 4,_,hI =>
   obtain ⟨wl,us,p,hI,h1,h2⟩:=hI
   exact J.op' hF g4 (by rw [z4];omega) (e4e r b n i _ _) hI fun a' w' h=>hK _ _ ⟨wl,us,p,h,h1,h2⟩
  | 5,_,hI =>
   obtain ⟨wl,us,p,hI,h1,h2⟩:=hI
   exact J.op' hF g4 (by rw [z4];omega) (e4f r b n i _ _) hI fun a' w' h=>hK _ _ ⟨wl,us,p,h,h1,h2⟩
 ·rw [z4] at hI
  obtain ⟨wl,us,p,hI,h1,h2⟩:=hI
  refine hQ a' w' wl us p ?_ h1 h2
  have:=hI.mask [2,3,4,13,14,15,5,6]
  rw [e4z r b n i _ _ (RwE.of us p)] at this
  exact this
theorem p3_num {cx:Cx Pl} {v:Value} {b:PosR} (h:RD X0.C cx v (.agg (cP3 b))) (cx':Cx Pl):RD X0.C cx' v (.agg [.num,.num,.num]):=by
 obtain ⟨vs,rfl,hs,h1,hr⟩:=rd_agg_get h
 refine .agg vs _ hs h1 fun i u c hu hc=>?_
 have num:∀(j:Nat) x,vs[j]?=some u→(cP3 b)[j]?=some (dI x)→RD X0.C cx' u .num:=fun j x hu hc=>by
  have:=hr j u _ hu hc
  unfold dI at this
  cases this with
  | int _ _ h=>exact .num _ h
 match i with
 | 0=>simp only [List.getElem?_cons_zero,Option.some.injEq] at hc;subst hc;exact num 0 _ hu rfl
 | 1=>simp only [List.getElem?_cons_succ,List.getElem?_cons_zero,Option.some.injEq] at hc;subst hc;exact num 1 _ hu rfl
 | 2=>simp only [List.getElem?_cons_succ,List.getElem?_cons_zero,Option.some.injEq] at hc;subst hc;exact num 2 _ hu rfl
 | i+3=>simp at hc
include hF in
theorem mv5_goes {wl:World} {r:RwE} {b:PosR} {n i c bb off:Nat} {x:ExprR} {us:Array Value} {p:PosR} (hv:r.vb=.slice (some ⟨bb,off,none⟩) n c) (hi:i < n) (hbx:Bare x) (ihx:MvdOk x) (hrow:RowAt F wl x us bb (off+i * 15)) {a:Act} {w:World}
  (hJ:J F w0 wl (sF 0 r (RwE.of us p) b (RwE.of us p) (.pointer (some ⟨bb,off+i * 15,none⟩)) n i) a w)
  {Q:Exit→Act→World→Prop} (hQ:∀a' w' q,J F w0 wl (sF 255 r (RwE.of us p) b (RwE.of us q) (.pointer (some ⟨bb,off+i * 15,none⟩)) n i) a' w'→Q .normal a' w'):mv5.wp X1.P Q a w:=by
 rw [mv5_eq]
 have hdr:J F w0 wl (sF 0 r (RwE.of us p) b (RwE.of us p) (.pointer (some ⟨bb,off+i * 15,none⟩)) n i) a { w with drawn:=w.drawn+1 } :=
  hJ.posw hF ⟨rfl,rfl,rfl,Nat.le_refl _,fun _ _ _=>rfl,fun b cells T hFb hc=>⟨cells,hc,rfl,fun i v hv=>⟨fun _=>hv,fun hn=>⟨v,hv,hn⟩⟩⟩,fun b cells T fz h=>⟨cells,T,fz,h,rfl⟩,fun _ _ _ h _=>h⟩
 refine wp_tabN xok1.mixed tab5 255 t5_ok (fun m a w=>∃q,J F w0 wl (sF m r (RwE.of us p) b (RwE.of us q) (.pointer (some ⟨bb,off+i * 15,none⟩)) n i) a w) (fun q hq a w hI K hK=>?_) (fun a w hI=>?_) ⟨p,hdr⟩
 ·obtain ⟨y,hI⟩:=hI
  have h8:q.2 < 8:=by
   have:=List.all_eq_true.1 e5u q hq
   simpa [Nat.blt_eq] using this
  by_cases h5:q.2 < 5
  ·have hm:q∈early (pairsN (opsOf mv5) tab5):=List.mem_filter.2 ⟨hq,by simpa [Nat.blt_eq] using h5⟩
   have he:=map_mem (e5 r (RwE.of us p) b (RwE.of us y) (.pointer (some ⟨bb,off+i * 15,none⟩)) n i) hm
   exact J.op' hF g5 (by rw [z5];omega) he hI fun a' w' h=>hK a' w' ⟨y,h⟩
  obtain ⟨m,k⟩:=q
  simp only at h8 h5 hI hK ⊢
  obtain rfl | rfl | rfl:k=5∨k=6∨k=7:=by omega
  ·have hm:m∈[24,28,25,29,27,31]:=by
    rw [←e5c]
    exact List.mem_map.2 ⟨(m,5),List.mem_filter.2 ⟨hq,rfl⟩,rfl⟩
   have hx:=map_mem (e5x r (RwE.of us p) b (RwE.of us y) (.pointer (some ⟨bb,off+i * 15,none⟩)) n i) hm
   simp only [Prod.mk.injEq] at hx
   obtain ⟨o,h1,h2,h3,h4⟩:=opAt_some o55
   obtain ⟨cx,hr⟩:=hI.rd (.tmp 23)
   rw [hx.1] at hr
   obtain ⟨vs,hvs,s1,s2,s3,s4⟩:=row_rd hr
   obtain ⟨cx2,hr2⟩:=hI.rd (.tmp 24)
   rw [hx.2] at hr2
   have hFw:∀b,F b→b < w.heap.size:=fun b hb=>Nat.lt_of_lt_of_le (hF b hb) hI.pos.size
   have hrd:RD X0.C (cxF F w) (a.eval (.tmp 23)) (.agg (cExN x)):=by
    rw [hvs]
    refine .agg vs _ s1 s4 fun j u c hu hc=>?_
    by_cases hj:j < 12
    ·rw [s2 j hj] at hu
     obtain rfl:=Option.some.inj hu
     exact tree_cell hI.rows hbx j c _ hj hc (hrow.rd j c hj hc)
    ·obtain ⟨n,rfl,hR⟩:=s3 j u (by omega) hu
     have hlt:j < 15:=by
      rcases Nat.lt_or_ge j 15 with h' | h'
      ·exact h'
      ·rw [List.getElem?_eq_none (by rw [cExN_len];exact h')] at hc;cases hc
     have:c=.num:=by
      match j,hj,hlt with
      | 12,_,_=>simpa [cExN] using hc.symm
      | 13,_,_=>simpa [cExN] using hc.symm
      | 14,_,_=>simpa [cExN] using hc.symm
     subst this
     exact .num _ hR
   refine wpOp_call h1 h4 (run_call2 h2) (ihx w F _ _ hFw hrd (p3_num hr2)) fun v' w' ⟨hP,hV⟩=>?_
   rw [h3]
   obtain ⟨us1,vs',e1,rfl,t1,t2,t3,t4⟩:=hV
   rw [hvs] at e1
   obtain rfl:vs=us1:=by simpa using e1
   obtain ⟨p0,hp0,hr0⟩:=t4 12 _ (by omega) (Array.getElem?_eq_getElem (by omega))
   obtain ⟨p1,hp1,hr1⟩:=t4 13 _ (by omega) (Array.getElem?_eq_getElem (by omega))
   obtain ⟨p2,hp2,hr2'⟩:=t4 14 _ (by omega) (Array.getElem?_eq_getElem (by omega))
   have:=(hI.posw hF hP).put (dst:=some 25) (v:=.agg vs') (d:=.agg (cRw (RwE.of us ⟨p0,p1,p2⟩))) (rd_row t2 (fun j hj=>by rw [t3 j hj,s2 j hj]) (by rw [Array.getElem?_eq_getElem (by omega),hp0]) (by rw [Array.getElem?_eq_getElem (by omega),hp1]) (by rw [Array.getElem?_eq_getElem (by omega),hp2]) ⟨hr0,hr1,hr2'⟩ (fun j v hj=>by
    by_cases h12:j < 12
    ·rw [t3 j h12] at hj;exact s4 j v hj
    ·obtain ⟨n,rfl,_⟩:=t4 j v (by omega) hj;rfl))
   have he:=map_mem (e5p r (RwE.of us p) b (RwE.of us y) (RwE.of us ⟨p0,p1,p2⟩) (.pointer (some ⟨bb,off+i * 15,none⟩)) n i) hm
   rw [he] at this
   exact hK _ _ ⟨_,this⟩
  ·have hm:(m,6)∈(pairsN (opsOf mv5) tab5).filter (fun q=>Nat.beq q.2 6):=List.mem_filter.2 ⟨hq,rfl⟩
   rw [e5s] at hm
   simp only [List.mem_singleton,Prod.mk.injEq,and_true] at hm
   subst hm
   obtain ⟨o,h1,h2,h3,h4⟩:=opAt_some o56
   have hev:a.eval (.tmp 21)=.slice (some ⟨bb,off,none⟩) n c:=by rw [hI.lit (v:=r.vb) (by kernel_rfl),hv]
   have hev2:a.eval (.tmp 22)=.int .i64 i:=(hI.int (n:=i) (by kernel_rfl)).1
   refine wpOp_hand h1 h4 (run_ix h2 sl_eq sz_eq hev hev2 hi) (hK _ _ ⟨y,?_⟩)
   rw [h3]
   have:=hI.put (dst:=some 26) (v:=.pointer (some ⟨bb,off+i * 15,none⟩)) (d:=.lit _) fun cx=>.lit _
   rw [e56] at this
   exact this
  ·have hm:(m,7)∈(pairsN (opsOf mv5) tab5).filter (fun q=>Nat.beq q.2 7):=List.mem_filter.2 ⟨hq,rfl⟩
   rw [e5t] at hm
   simp only [List.mem_singleton,Prod.mk.injEq,and_true] at hm
   subst hm
   obtain ⟨o,h1,h2,h3,h4⟩:=opAt_some o57
   have hev:a.eval (.tmp 26)=.pointer (some ⟨bb,off+i * 15,none⟩):=hI.lit (by kernel_rfl)
   obtain ⟨cx,hr⟩:=hI.rd (.tmp 25)
   rw [show evK X1 (sF 127 r (RwE.of us p) b (RwE.of us y) (.pointer (some ⟨bb,off+i * 15,none⟩)) n i).tm [] (.tmp 25)=.agg (cRw (RwE.of us y)) by kernel_rfl] at hr
   obtain ⟨vs,hvs,s1,s2,s3,s4⟩:=row_rd hr
   obtain ⟨cells,T,hh,hc12,hfit⟩:=hrow.cells
   obtain ⟨cells',hh',hsz,hcs⟩:=hI.rows bb cells T hrow.inF hh
   refine wpOp_skip h1 h4 (run_st h2 sz_eq hev hvs s1 (fun v hv=>?_) hh' (by omega)) ?_
   ·obtain ⟨j,hj⟩:=List.mem_iff_getElem?.1 hv
    exact s4 j v (by simpa using hj)
   ·rw [h3]
    have hP:=posW_set (w:=w) hrow.inF hh' hrow.al s1 (by omega) (fun j v hj hv=>by
     rw [s2 j hj] at hv
     rw [←Option.some.inj hv]
     have hq:(off+i * 15+j) % 15=j:=by
      rw [Nat.add_mod,hrow.al,Nat.zero_add,Nat.mod_mod,Nat.mod_eq_of_lt (by omega)]
     exact (hcs _ _ (hc12 j hj)).1 (by rw [hq];exact hj)) s3
    have:=hI.posw hF hP
    rw [e57] at this
    exact hK _ _ ⟨y,this⟩
 ·obtain ⟨q,hI⟩:=hI
  exact hQ a w q hI
end
end Go.Proofs.YtcgbgcconigdbaaGreatDoor.Mv
namespace Go.Proofs.YtcgbgcconigdbaaGreatDoor.Mv
open Go.Eng Go.RowKit
set_option maxRecDepth 100000
noncomputable abbrev evD1 (n:Nat) (code:Code) (keep lose:List Nat) (S:St Pl):Option (Ex×St Pl) :=
 exec X1 (callK X1 F0 tell0 noTL n) noL code S (fun e S=>some (e,normS (keepOf keep) (keepOf lose) S))
theorem goes_ofD1 {n:Nat} {code:Code} {keep lose:List Nat} {S S':St Pl} {e:Ex} (h:evD1 n code keep lose S=some (e,S')):Goes X1 code S e S':=by
 obtain ⟨e1,S1,h1,h2⟩:=body_goes xok1 fok (tell0_ok _) (noTL_ok _ _) (fun b _=>noL_ok _ b) h
 simp only [Option.some.injEq,Prod.mk.injEq] at h1
 obtain ⟨rfl,rfl⟩:=h1
 exact h2.norm xok1 _ _
def s3 (r:RwE) (b:PosR) (n i:Nat):St Pl:=mkS 29 (slM r n i++[(16,.bool (decide ((i:Int) < (n:Int))))]) (obM r b)
theorem e3 (r:RwE) (b:PosR) (n i:Nat):evC1 0 mv3 [2,3,4,13,14,15,16] (sM2 r b n i)=some (.normal,s3 r b n i):=by kernel_rfl
theorem e3m (r:RwE) (b:PosR) (n i:Nat):maskS (keepOf [2,3,4,13,14,15]) (s3 r b n i)=sM2 r b n i:=by kernel_rfl
def sMz (r:RwE) (b:PosR) (n:Nat) (z:Int):St Pl:=mkS 29 [(2,.ptr 2 0),(3,.ptr 3 0),(4,.ptr 4 0),(13,.lit r.vb),(14,dI n),(15,dI z)] (obM r b)
theorem e6 (r x:RwE) (b:PosR) (y:RwE) (v:Value) (n i:Nat):evD1 0 mv6 [2,3,4,13,14,15] [6] (sF 255 r x b y v n i)=some (.normal,sMz r b n (IntKind.i64.wrap ((i:Int)+1))):=by kernel_rfl
theorem sMz_eq (r:RwE) (b:PosR) (n i:Nat):sMz r b n (i:Int)=sM2 r b n i:=by kernel_rfl
def s7 (r:RwE) (b:PosR):St Pl:=mkS 29 [(4,.ptr 4 0)] [(4,.box false (cRw r)),(3,.box false (cP3 b)),(2,.box false (cRw r))]
theorem e7 (r:RwE) (b:PosR) (n i:Nat):evC1 0 (.seq mv7 .ret) [4] (sM2 r b n i)=some (.ret,s7 r b):=by kernel_rfl
section
variable {F:Nat→Prop} {w0:World} (hF:∀b,F b→b < w0.heap.size)
include hF in
theorem mv_round {wr:World} {r:RwE} {b:PosR} {n i c bb off:Nat} {l:List ExprR} (hv:r.vb=.slice (some ⟨bb,off,none⟩) n c) (hi:i < n) (hn:n=l.length) (hbig:n≤big) (hb:∀x,x∈l→Bare x∧MvdOk x) {a:Act} {w:World} (hJ:J F w0 wr (sM2 r b n i) a w) (htr:∀w',RowW F wr w'→RD X0.C (cxF F w') r.vb (.pl (pExprs l) .any))
  {Q:Exit→Act→World→Prop} (hQ:∀a' w',J F w0 wr (sM2 r b n (i+1)) a' w'→Q .normal a' w'):mvBd.wp X1.P Q a w:=by
 rw [mvBd_eq]
 refine wp_seq (hJ.code hF (goes_of1 (e3 r b n i)) fun a1 w1 h1=>?_)
 have hc:a1.eval (.tmp 16)=.bool true:=by
  obtain ⟨cx,hr⟩:=h1.rd (.tmp 16)
  rw [show evK X1 (s3 r b n i).tm [] (.tmp 16)=.bool (decide ((i:Int) < (n:Int))) by kernel_rfl,decide_eq_true (by omega)] at hr
  exact lit_eq hr
 have h1:=h1.mask [2,3,4,13,14,15]
 rw [e3m] at h1
 refine wp_seq (wp_cond hc ?_)
 rw [if_pos rfl]
 refine wp_skip ?_
 refine wp_seq (wp_block (wp_seq (mv4_goes hF hv hi (l:=l) h1 (fun w' hw=>htr w' (h1.rows.trans hw)) fun a2 w2 wl us p h2 h3 h4=>?_)))
 have hx:l.getD i default∈l:=by
  rw [List.getD_eq_getElem?_getD,List.getElem?_eq_getElem (by omega)];exact List.getElem_mem (by omega)
 refine mv5_goes hF hv hi (hb _ hx).1 (hb _ hx).2 h3 h2 fun a3 w3 q h5=>?_
 have h6:J F w0 wr (sF 255 r (RwE.of us p) b (RwE.of us q) (.pointer (some ⟨bb,off+i * 15,none⟩)) n i) a3 w3:=⟨h5.pos,(h1.rows.trans h4).trans h5.rows,h5.key,h5.sim⟩
 refine h6.code hF (goes_ofD1 (e6 r (RwE.of us p) b (RwE.of us q) _ n i)) fun a4 w4 h7=>?_
 rw [show IntKind.i64.wrap ((i:Int)+1)=((i+1:Nat):Int) from wrap_nat (by have:big=140737488355328:=rfl;omega),sMz_eq] at h7
 exact hQ a4 w4 h7
theorem mv_rounds {wr:World} {r:RwE} {b:PosR} {n c:Nat} {ad:Option Addr} {l:List ExprR} (hF:∀b,F b→b < w0.heap.size) (hv:r.vb=.slice ad n c) (hn:n=l.length) (hbig:n≤big) (hb:∀x,x∈l→Bare x∧MvdOk x) (htr:∀w',RowW F wr w'→RD X0.C (cxF F w') r.vb (.pl (pExprs l) .any))
  {Q:Exit→Act→World→Prop} (hQ:∀a' w',J F w0 wr (sM2 r b n n) a' w'→Q (.exit 0) a' w'):∀(k i:Nat),n - i=k→i≤n→∀(a:Act) (w:World),J F w0 wr (sM2 r b n i) a w→Code.rounds X1.P mvBd Q (k+1) a w
 | 0,i,hk,hi,a,w,hJ=>by
  obtain rfl:i=n:=by omega
  show mvBd.wp X1.P _ a w
  rw [mvBd_eq]
  refine wp_seq (hJ.code hF (goes_of1 (e3 r b i i)) fun a1 w1 h1=>?_)
  have hc:a1.eval (.tmp 16)=.bool false:=by
   obtain ⟨cx,hr⟩:=h1.rd (.tmp 16)
   rw [show evK X1 (s3 r b i i).tm [] (.tmp 16)=.bool (decide ((i:Int) < (i:Int))) by kernel_rfl,decide_eq_false (by omega)] at hr
   exact lit_eq hr
  have h1:=h1.mask [2,3,4,13,14,15]
  rw [e3m] at h1
  refine wp_seq (wp_cond hc ?_)
  rw [if_neg (by simp)]
  exact wp_exit (hQ a1 w1 h1)
 | k+1,i,hk,hi,a,w,hJ=>by
  have hlt:i < n:=by omega
  obtain ⟨bb,off,had⟩:∃bb off,ad=some ⟨bb,off,none⟩:=by
   have:=htr w hJ.rows
   rw [hv] at this
   cases this with
   | pl0 _ _ _ _ hl hk=>
    have hl:l.length=0:=hl
    omega
   | pl b off n c _ _ vs hn hc hb hk hav hcell h1 hrd=>exact ⟨_,_,rfl⟩
  subst had
  show mvBd.wp X1.P _ a w
  exact mv_round hF hv hlt hn hbig hb hJ htr fun a' w' h=>mv_rounds hF hv hn hbig hb htr hQ k (i+1) (by omega) (by omega) a' w' h
end
noncomputable def mvF:Func:=Tryz.f68
theorem mvF_body:mvF.body=some mvB:=by kernel_rfl
theorem mvF_nt:mvF.ntmps=29:=by kernel_rfl
theorem mvF_at:F0 68=some mvF:=by kernel_rfl
theorem mvF_res (r:RwE) (b:PosR):resultsOf X1 (s7 r b) mvF.results.toList=some [.agg (cRw r)]:=by kernel_rfl
theorem getT_two (x y:D Pl) (t:Nat):getT (mkS (α:=Pl) 29 [(0,x),(1,y)] []).tm t=match t with
  | 0=>x
  | 1=>y
  | _=>.bad:=by
 have h:(mkS (α:=Pl) 29 [(0,x),(1,y)] []).tm=x::y::List.replicate 27 .bad:=by kernel_rfl
 rw [h]
 match t with
 | 0=>rfl
 | 1=>rfl
 | t+2=>exact (by
   show getT (List.replicate 27 .bad) t=.bad
   rw [getT_get,List.getElem?_replicate]
   split<;>rfl)
theorem sM0_len (r:RwE) (b:PosR):(sM0 r b).tm.length=29:=by kernel_rfl
theorem sM0_hs (r:RwE) (b:PosR):(sM0 r b).hs=[]:=rfl
theorem args2 (x y:Value) (k t:Nat):(#[x,y]++Array.replicate k undef).getD t undef=match t with
  | 0=>x
  | 1=>y
  | _=>undef:=by
 rw [Array.getD_eq_getD_getElem?,Array.getElem?_append]
 match t with
 | 0=>rfl
 | 1=>rfl
 | t+2=>exact (by
   rw [if_neg (by simp),Array.getElem?_replicate]
   split<;>rfl)
theorem J.start {F:Nat→Prop} {w:World} {r:RwE} {b:PosR} {x y:Value} (hx:∀cx:Cx Pl,RD X0.C cx x (.agg (cRw r))) (hy:∀cx:Cx Pl,RD X0.C cx y (.agg (cP3 b))):J F w w (sM0 r b) { tmps:=#[x,y]++Array.replicate 27 undef,defers:=[] } w:=by
 have hno:∀{o:Nat} {ob:Ob Pl},Eng.look (sM0 r b).hs o=some ob→False:=fun h=>by rw [sM0_hs] at h;simp [Eng.look] at h
 refine ⟨PosW.refl F w,RowW.refl F w,fun t ks b' e' h=>?_,fun _=>none,⟨?_,fun t=>?_,rfl,fun o ob ho=>(hno ho).elim,fun o o' ob ob' b' ho=>(hno ho).elim,fun o ob b' ho=>(hno ho).elim,toL (BelowD.refl _ _),fun _ h=>h,fun b' ⟨o,ob,ho,_⟩=>(hno ho).elim,fun c b hc=>(by cases hc),fun i cs hg=>(by cases hg)⟩,fun o ob b' ho=>(hno ho).elim⟩
 ·rw [show getT (sM0 r b).tm t=_ from getT_two _ _ t] at h
  match t with
  | 0=>cases h
  | 1=>cases h
  | t+2=>cases h
 ·rw [sM0_len];simp
 ·rw [show getT (sM0 r b).tm t=_ from getT_two _ _ t]
  show RG _ _ _ ((#[x,y]++Array.replicate 27 undef).getD t undef) _
  rw [args2]
  match t with
  | 0=>exact RG.of (hx _)
  | 1=>exact RG.of (hy _)
  | t+2=>exact .bad _
theorem moved_ok {e:ExprR} (hbe:Bare e):MvdOk e:=by
 induction hbe with
 | mk e hv1 hv2 hl ih =>
  intro w F v base hF hv hbase
  have hfn:=fok _ _ mvF_at
  have hf:X0.P.funcs[68]?=some mvF:=hfn.1
  have hn':¬ mvF.name="runtime.NumGoroutine" := by simpa using hfn.2
  obtain ⟨vs,rfl,hs,h1,hr⟩:=rd_agg_get hv
  have hs:vs.size=15:=hs
  obtain ⟨bs,rfl,hbs,hb1,hbr⟩:=rd_agg_get (hbase (cx0 w fun _=>False))
  have hbs:bs.size=3:=hbs
  have num:∀(u:Value) (cx:Cx Pl),RD X0.C cx u .num→isNumV u:=fun u cx h=>by cases h with | num n hn=>exact ⟨n,rfl,hn⟩
  obtain ⟨b0,hb0,hR0⟩:=num _ _ (hbr 0 _ .num (Array.getElem?_eq_getElem (by omega)) rfl)
  obtain ⟨b1,hb1',hR1⟩:=num _ _ (hbr 1 _ .num (Array.getElem?_eq_getElem (by omega)) rfl)
  obtain ⟨b2,hb2,hR2⟩:=num _ _ (hbr 2 _ .num (Array.getElem?_eq_getElem (by omega)) rfl)
  obtain ⟨p0,hp0,hq0⟩:=num _ _ (hr 12 _ .num (Array.getElem?_eq_getElem (by omega)) rfl)
  obtain ⟨p1,hp1,hq1⟩:=num _ _ (hr 13 _ .num (Array.getElem?_eq_getElem (by omega)) rfl)
  obtain ⟨p2,hp2,hq2⟩:=num _ _ (hr 14 _ .num (Array.getElem?_eq_getElem (by omega)) rfl)
  have hge:∀(j:Nat) (hj:j < 15),vs[j]?=some (vs.getD j undef):=fun j hj=>by
   rw [Array.getD_eq_getD_getElem?,Array.getElem?_eq_getElem (by omega)];rfl
  have hva:∀cx:Cx Pl,RD X0.C cx (.agg vs) (.agg (cRw (RwE.of vs ⟨p0,p1,p2⟩))):=rd_row hs (fun j hj=>hge j (by omega)) (by rw [Array.getElem?_eq_getElem (by omega),hp0]) (by rw [Array.getElem?_eq_getElem (by omega),hp1]) (by rw [Array.getElem?_eq_getElem (by omega),hp2]) ⟨hq0,hq1,hq2⟩ h1
  have hba:∀cx:Cx Pl,RD X0.C cx (.agg bs) (.agg (cP3 ⟨b0,b1,b2⟩)):=fun cx=>by
   refine .agg bs _ hbs hb1 fun i u c hu hc=>?_
   match i with
   | 0=>simp only [cP3,List.getElem?_cons_zero,Option.some.injEq] at hc;subst hc;rw [Array.getElem?_eq_getElem (by omega),hb0] at hu;rw [←Option.some.inj hu];exact .int _ _ hR0
   | 1=>simp only [cP3,List.getElem?_cons_succ,List.getElem?_cons_zero,Option.some.injEq] at hc;subst hc;rw [Array.getElem?_eq_getElem (by omega),hb1'] at hu;rw [←Option.some.inj hu];exact .int _ _ hR1
   | 2=>simp only [cP3,List.getElem?_cons_succ,List.getElem?_cons_zero,Option.some.injEq] at hc;subst hc;rw [Array.getElem?_eq_getElem (by omega),hb2] at hu;rw [←Option.some.inj hu];exact .int _ _ hR2
   | i+3=>simp [cP3] at hc
  refine .inl ⟨by simp [callFunc,hf,hn',mvF_body],calls_of_wp hf mvF_body ?_⟩
  have hJ:J F w w (sM0 (RwE.of vs ⟨p0,p1,p2⟩) ⟨b0,b1,b2⟩) { tmps:=#[.agg vs,.agg bs]++Array.replicate 27 undef,defers:=[] } w:=J.start hva hba
  rw [mvF_nt]
  show mvB.wp X1.P _ { tmps:=#[.agg vs,.agg bs]++Array.replicate 27 undef,defers:=[] } w
  generalize hQ:bodyPost X0.P mvF _=Q
  generalize hr0:RwE.of vs ⟨p0,p1,p2⟩=r0 at hJ hva
  generalize hb0':(⟨b0,b1,b2⟩:PosR)=b at hJ
  rw [mvB_eq]
  have hL:RD X0.C (cxF F w) (vs.getD 11 undef) (.pl (pExprs e.l) .any):=by
   have:=hr 11 _ (.pl (pExprs e.l) .any) (hge 11 (by omega)) rfl
   exact this
  obtain ⟨ad,n,c,hvL,hnl,hbig⟩:∃ad n c,vs.getD 11 undef=.slice ad n c∧n=e.l.length∧n≤big:=by
   generalize vs.getD 11 undef=u at hL
   cases hL with
   | pl0 a c _ _ hl hk =>
    have hl:e.l.length=0:=hl
    exact ⟨a,0,c,rfl,hl.symm,Nat.zero_le _⟩
   | pl bb off n c _ _ us hn hc hb hk hav hcell h1 hrd=>exact ⟨_,n,c,rfl,hn,bys_pos_len (xok1.pay.bpos (pExprs e.l)) hb⟩
  have htr:∀w',RowW F w w'→RD X0.C (cxF F w') (vs.getD 11 undef) (.pl (pExprs e.l) .any):=fun w' hw=>tree_list hw (fun x hx=>tree_cell hw (hl x hx)) hL
  have hvb:r0.vb=vs.getD 11 undef:=by rw [←hr0];rfl
  have hvb':(mvR r0 b).vb=.slice ad n c:=by rw [←hvL,←hvb];rfl
  refine wp_seq (hJ.code hF (goes_of1 (eM0 r0 b)) fun a1 w1 h1=>wp_seq (h1.code hF (goes_of1 (eM1 r0 b)) fun a2 w2 h2=>wp_seq (wp_seq (mv2_goes hF hvb' hbig h2 fun a3 w3 h3=>?_))))
  show mvBlk.wp X1.P _ a3 w3
  rw [mvBlk_eq]
  refine wp_block (wp_loop_rounds (n+1) (mv_rounds (wr:=w) (r:=mvR r0 b) hF hvb' hnl hbig (fun x hx=>⟨hl x hx,ih x hx⟩) (fun w' hw=>by rw [hvb',←hvL];exact htr w' hw) (fun a4 w4 h4=>?_) n 0 (by omega) (by omega) a3 w3 h3))
  refine h4.code hF (goes_of1 (e7 (mvR r0 b) b n n)) fun a5 w5 h5=>?_
  rw [←hQ]
  obtain ⟨hpos,_,_,rho,hS,_⟩:=h5
  obtain ⟨v,q1,q2⟩:=results_of xok1 hS mvF _ (mvF_res (mvR r0 b) b) (l:=[.agg (cRw (mvR r0 b))]) rfl (fun i v c c' h1 h2 h=>by rw [h1] at h2;rw [←Option.some.inj h2];exact h)
  refine ⟨hS.dfr,v,q1,v,rfl,hpos,?_⟩
  have q2:RD X0.C _ v (.agg (cRw (mvR r0 b))):=q2
  rw [←hr0,show mvR (RwE.of vs ⟨p0,p1,p2⟩) b=RwE.of vs ⟨IntKind.i64.wrap (b.at'+p0),b.line,IntKind.i64.wrap (IntKind.i64.wrap (b.col+p2) - 1)⟩ from rfl] at q2
  obtain ⟨us,rfl,t1,t2,t3,_⟩:=row_rd q2
  exact ⟨vs,us,rfl,rfl,hs,t1,fun j hj=>by rw [t2 j hj,hge j (by omega)],t3⟩
end Go.Proofs.YtcgbgcconigdbaaGreatDoor.Mv
