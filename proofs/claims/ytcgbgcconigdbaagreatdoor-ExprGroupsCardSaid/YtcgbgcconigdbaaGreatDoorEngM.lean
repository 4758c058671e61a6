/-
 THE ENGINE, PART M: SLICES, CONVERSIONS, LITERALS OF SLICES, CALLS.
-/
import Derived.Test.YtcgbgcconigdbaaGreatDoorEngMp
namespace Go.Eng
open Go.RowKit
variable {α:Type}
section
variable {X:Ctx α} (hX:XOk X) {g:Gh} {tm:List (D α)} {hs:Obs α} {a:Act} {w:World} (hS:Sim X g tm hs a w)
def RowAt (C:Pay α) (cx:Cx α) (b off:Nat) (p:α):Prop :=
 ∀(i j:Nat) d,i < C.len p→(C.elem p i)[j]?=some d→∃u,cx.w.cell? ⟨b,off+(i * C.esz p+j),none⟩=some u∧u.oneCell'=true∧RD C cx u d
def Src (C:Pay α) (cx:Cx α) (v:Value) (q:α):Prop :=
 ∃ad c,v=.slice ad (C.len q) c∧(0 < C.len q→∃b off,ad=some ⟨b,off,none⟩∧RowAt C cx b off q)
theorem row_list {C:Pay α} (hC:PayOk C) {cx:Cx α} {b off:Nat} {p:α} (h:RowAt C cx b off p):∃l:List Value,l.length=C.len p * C.esz p ∧
  (∀(k:Nat) u,l[k]?=some u→cx.w.cell? ⟨b,off+k,none⟩=some u)∧(∀u∈l,u.oneCell'=true) ∧
  ∀(i j:Nat) u d,i < C.len p→l[i * C.esz p+j]?=some u→(C.elem p i)[j]?=some d→RD C cx u d:=by
 have hz:=hC.pos p
 have hat:∀k,k < C.len p * C.esz p→∃u,cx.w.cell? ⟨b,off+k,none⟩=some u∧u.oneCell'=true∧∃d,(C.elem p (k / C.esz p))[k % C.esz p]?=some d∧RD C cx u d:=by
  intro k hk
  have hi:k / C.esz p < C.len p:=Nat.div_lt_of_lt_mul (by rw [Nat.mul_comm];exact hk)
  have hj:k % C.esz p < (C.elem p (k / C.esz p)).length:=by rw [hC.elen p _ hi];exact Nat.mod_lt _ hz
  obtain ⟨u,h1,h2,h3⟩:=h (k / C.esz p) (k % C.esz p) _ hi (List.getElem?_eq_getElem hj)
  rw [Nat.mul_comm,Nat.div_add_mod] at h1
  exact ⟨u,h1,h2,_,List.getElem?_eq_getElem hj,h3⟩
 refine ⟨(List.range (C.len p * C.esz p)).map fun k=>(cx.w.cell? ⟨b,off+k,none⟩).getD undef,by simp,fun k u hu=>?_,fun u hu=>?_,fun i j u d hi hu hd=>?_⟩
 ·rw [List.getElem?_map] at hu
  obtain ⟨k',hk',rfl⟩:=Option.map_eq_some_iff.1 hu
  have hlt:k < C.len p * C.esz p:=by
   rcases Nat.lt_or_ge k (C.len p * C.esz p) with h | h
   ·exact h
   ·rw [List.getElem?_eq_none (by simpa using h)] at hk';simp at hk'
  rw [List.getElem?_range hlt] at hk'
  simp only [Option.some.injEq] at hk'
  subst hk'
  obtain ⟨u,h1,_⟩:=hat k hlt
  rw [h1];rfl
 ·obtain ⟨k,hk,rfl⟩:=List.mem_map.1 hu
  obtain ⟨u,h1,h2,_⟩:=hat k (List.mem_range.1 hk)
  rw [h1];exact h2
 ·rw [List.getElem?_map] at hu
  obtain ⟨k',hk',rfl⟩:=Option.map_eq_some_iff.1 hu
  have hj:j < C.esz p:=by
   rw [←hC.elen p i hi]
   rcases Nat.lt_or_ge j (C.elem p i).length with h | h
   ·exact h
   ·simp [List.getElem?_eq_none h] at hd
  have hlt:i * C.esz p+j < C.len p * C.esz p:=by
   have:(i+1) * C.esz p≤C.len p * C.esz p:=Nat.mul_le_mul_right _ hi
   rw [Nat.add_mul,Nat.one_mul] at this;omega
  rw [List.getElem?_range hlt] at hk'
  simp only [Option.some.injEq] at hk'
  subst hk'
  obtain ⟨u,h1,_,h3⟩:=h i j d hi hd
  rw [h1];exact h3
theorem info_of {P:Program} {e n:Nat} (h:szO P e=some n) (hz:zsz P e=true):∃i z,P.info? e=some i∧i.size=n∧i.zero=some z∧z.cells.size=n∧∀u∈z.cells,u.oneCell'=true:=by
 unfold szO at h
 obtain ⟨i,hi,rfl⟩:=Option.map_eq_some_iff.1 h
 unfold zsz at hz
 rw [hi] at hz
 simp only at hz
 cases hzz:i.zero with
 | none=>simp [hzz] at hz
 | some z =>
  rw [hzz] at hz
  simp only [Bool.and_eq_true,List.all_eq_true] at hz
  exact ⟨i,z,hi,rfl,hzz,Nat.eq_of_beq_eq_true hz.1,fun u hu=>hz.2 u (Array.mem_toList_iff.2 hu)⟩
theorem run_append_zero {P:Program} (w:World) (t ty e:TypeId) (n:Nat) (ht:P.underlying t=some (.slice e)) (hn:szO P e=some n) (ad ad':Option Addr) (l c c':Nat) (hc:l≤c) :
  (Builtin.append_ #[t,t] ty #[.slice ad l c,.slice ad' 0 c']).run P w=.ok (.slice ad l c) w:=by
 have hf:(Builtin.firstCells n 0 (.slice ad' 0 c')).run P w=.ok #[] w:=by
  cases ad'<;>simp [Builtin.firstCells,loadCells,loadCellsFrom]
 cases ad<;>simp [Builtin.append_,run_underlying ht,run_sizeOf' P w hn,Builtin.lenOf,hc,hf,storeCells]
inductive Base (X:Ctx α) (g:Gh) (hs:Obs α) (w:World) (o:Nat) (v:Value) (p:α) (m:Nat):Prop
 | none (ad:Option Addr) (hv:v=.slice ad 0 0) (hl:X.C.len p=0)
 | full (b off:Nat) (hv:v=.slice (some ⟨b,off,none⟩) (X.C.len p) (X.C.len p)) (hr:RowAt X.C (cxOf g hs w) b off p) (hm:0 < m)
 | own (b c:Nat) (cells:Array Value) (T:TypeId) (hl:look hs o=some (.arr false p)) (hrho:g.rho o=some b) (hv:v=.slice (some ⟨b,0,none⟩) (X.C.len p) c)
   (hc:X.C.len p≤c) (hh:w.heap[b]?=some (.cells cells T (0,0))) (hsz:c * X.C.esz p≤cells.size)
theorem drew_below {δ:Bool} (w:World):BelowD δ w.heap.size w w.drew:=(BelowD.refl _ _).drew
theorem ObRel.row {C:Pay α} (hC:PayOk C) {cx:Cx α} {b:Nat} {cells:Array Value} {T:TypeId} {p q r:α} (hcat:C.cat p q=some r) {os ns:List Value}
  (hos:os.length=C.len p * C.esz p) (hns:ns.length=C.len q * C.esz q) (hcl:∀(k:Nat) u,(os++ns)[k]?=some u→cells[k]?=some u)
  (h1:∀(k:Nat) u,cells[k]?=some u→u.oneCell'=true)
  (hop:∀(i j:Nat) u d,i < C.len p→os[i * C.esz p+j]?=some u→(C.elem p i)[j]?=some d→RD C cx u d)
  (hoq:∀(i j:Nat) u d,i < C.len q→ns[i * C.esz q+j]?=some u→(C.elem q i)[j]?=some d→RD C cx u d)
  (hh:cx.w.heap[b]?=some (.cells cells T (0,0))) (hbig:C.len r * C.bys r≤big) (fz:Bool):ObRel C cx (some b) (.arr fz r):=by
 obtain ⟨r1,r2,r3,r4,r5,r6⟩:=hC.cat p q r hcat
 have hlen:(os++ns).length=C.len r * C.esz r:=by rw [List.length_append,hos,hns,r1,r2,r4,Nat.add_mul]
 refine ⟨cells,T,hh,?_,hbig,h1,fun i j u d hi hu hd=>?_⟩
 ·rw [←hlen]
  rcases Nat.lt_or_ge cells.size (os++ns).length with h | h
  ·have:=hcl cells.size _ (List.getElem?_eq_getElem h)
   simp at this
  ·exact h
 ·have hj:j < C.esz r:=by
   rw [←hC.elen r i hi]
   rcases Nat.lt_or_ge j (C.elem r i).length with h | h
   ·exact h
   ·simp [List.getElem?_eq_none h] at hd
  rw [r2] at hj hu
  by_cases hip:i < C.len p
  ·rw [r5 i hip] at hd
   have hlt:i * C.esz p+j < os.length:=by
    have:(i+1) * C.esz p≤C.len p * C.esz p:=Nat.mul_le_mul_right _ hip
    rw [Nat.add_mul,Nat.one_mul] at this;omega
   have:=hcl _ _ (by rw [List.getElem?_append_left hlt];exact List.getElem?_eq_getElem hlt)
   rw [this] at hu
   simp only [Option.some.injEq] at hu
   exact hop i j u d hip (by rw [←hu];exact List.getElem?_eq_getElem hlt) hd
  ·obtain ⟨k,rfl⟩:∃k,i=C.len p+k:=⟨i - C.len p,by omega⟩
   have hk:k < C.len q:=by omega
   rw [r6 k hk] at hd
   have hlt:k * C.esz q+j < ns.length:=by
    have:(k+1) * C.esz q≤C.len q * C.esz q:=Nat.mul_le_mul_right _ hk
    rw [Nat.add_mul,Nat.one_mul] at this;omega
   have hidx:(C.len p+k) * C.esz p+j=os.length+(k * C.esz q+j):=by rw [Nat.add_mul,hos,r4];omega
   rw [hidx] at hu
   have:=hcl (os.length+(k * C.esz q+j)) _ (by rw [List.getElem?_append_right (by omega),Nat.add_sub_cancel_left];exact List.getElem?_eq_getElem hlt)
   rw [this] at hu
   simp only [Option.some.injEq] at hu
   exact hoq k j u d hk (by rw [←hu];exact List.getElem?_eq_getElem hlt) hd
theorem run_append_room' {P:Program} (w:World) (t ty e:TypeId) (i:TypeInfo) (ht:P.underlying t=some (.slice e)) (hi:P.info? e=some i)
  (g sLen sCap:Nat) (cur:Array Value) (T:TypeId) (hg:w.heap[g]?=some (.cells cur T (0,0)))
  (a:Addr) (m c:Nat) (news:List Value) (hl:news.length=m * i.size) (hnews:∀j u,news[j]?=some u→w.cell? (a.add j)=some u) (h1:∀u∈news,u.oneCell'=true)
  (hroom:sLen+m≤sCap) (hfit:sLen * i.size+news.length≤cur.size) :
  (Builtin.append_ #[t,t] ty #[.slice (some ⟨g,0,none⟩) sLen sCap,.slice (some a) m c]).run P w =
   .ok (.slice (some ⟨g,0,none⟩) (sLen+m) sCap) (w.setRow g (cur.toList.take (sLen * i.size)++news++cur.toList.drop (sLen * i.size+news.length)).toArray):=by
 have hf:=run_firstCells_some (P:=P) w i.size m a m c news hl hnews
 have hst:=run_storeCells_at P g (sLen * i.size) T news 0 cur w hg (by simpa using hfit) h1
 simp only [Nat.add_zero] at hst
 simp [Builtin.append_,run_underlying ht,sizeOf,typeInfo,hi,Builtin.lenOf,hroom,hf,Addr.add_lit,hst]
theorem ObRel.same {C:Pay α} {cx:Cx α} {b:Option Nat} {p r:α} {fz fz':Bool} (h:ObRel C cx b (.arr fz p)) (h1:C.len r=C.len p) (h2:C.esz r=C.esz p) (h3:C.bys r=C.bys p)
  (h4:∀i,i < C.len p→C.elem r i=C.elem p i):ObRel C cx b (.arr fz' r):=by
 cases b with
 | none=>exact h1.trans h
 | some b =>
  obtain ⟨cells,T,hh,hsz,hbg,hc1,hr⟩:=h
  refine ⟨cells,T,hh,by rw [h1,h2];exact hsz,by rw [h1,h3];exact hbg,hc1,fun i j v d hi hv hd=>?_⟩
  rw [h1] at hi
  rw [h2] at hv
  rw [h4 i hi] at hd
  exact hr i j v d hi hv hd
theorem zeroLen_of {n:Nat} (h:zeroLen n=true):n=0:=Nat.eq_of_beq_eq_true h
omit hS in
include hX in
theorem row_closed {ns:Nat→Bool} {cx':Cx α} (hle:CxLe X.C ns (cxOf g hs w) cx') {p:α} {l:List Value}
  (h:∀(i j:Nat) u d,i < X.C.len p→l[i * X.C.esz p+j]?=some u→(X.C.elem p i)[j]?=some d→RD X.C (cxOf g hs w) u d) :
  ∀(i j:Nat) u d,i < X.C.len p→l[i * X.C.esz p+j]?=some u→(X.C.elem p i)[j]?=some d→RD X.C cx' u d:=by
 intro i j u d hi hu hd
 have:=RD.kill hX.pay hle (h i j u d hi hu hd)
 rwa [kill_closed ns d (hX.pay.clo p i d (List.mem_of_getElem? hd))] at this
include hX hS in
theorem grown_sound (dst o:Nat) (hdst:Nat.blt dst 40000=true) (e:TypeId) (p q r:α) (hcat:X.C.cat p q=some r) (os ns:List Value) (hos:os.length=X.C.len p * X.C.esz p) (hns:ns.length=X.C.len q * X.C.esz q)
  (h1o:∀u∈os,u.oneCell'=true) (h1n:∀u∈ns,u.oneCell'=true)
  (hop:∀(i j:Nat) u d,i < X.C.len p→os[i * X.C.esz p+j]?=some u→(X.C.elem p i)[j]?=some d→RD X.C (cxOf g hs w) u d)
  (hoq:∀(i j:Nat) u d,i < X.C.len q→ns[i * X.C.esz q+j]?=some u→(X.C.elem q i)[j]?=some d→RD X.C (cxOf g hs w) u d)
  (hbig:X.C.len r * X.C.bys r≤big) (z:Array Value) (h1z:∀u∈z,u.oneCell'=true) (hz:z.size=X.C.esz p) (k:Nat) (d:D α) (hd:d=.arr dst) (res:Res α)
  (hres:res.ch=some (tm.map (kill (nsOf o dst)),rebind o dst (.arr false r) hs)) (hrd:res.d=d) :
  OpOut X g tm hs a res (.slice (some ⟨w.heap.size,0,none⟩) (X.C.len r) (X.C.len r+k)) (w.drew.alloc (.cells (os.toArray++ns.toArray++Builtin.zeroCells z k) e)):=by
 obtain ⟨r1,r2,r3,r4,r5,r6⟩:=hX.pay.cat p q r hcat
 have hlen:(os++ns).length=X.C.len r * X.C.esz r:=by rw [List.length_append,hos,hns,r1,r2,r4,Nat.add_mul]
 refine ⟨bind1 g.rho dst (some w.heap.size),?_,?_⟩
 ·rw [hres]
  refine new_sound hX hS dst o hdst (.arr false r) _ w.drew (drew_below w) rfl fun cx hle hh=>?_
  refine ObRel.row hX.pay hcat hos hns (fun j u hj=>?_) (fun j u hj=>?_) (row_closed hX hle hop) (row_closed hX hle hoq) hh hbig false
  ·have hlt:j < (os++ns).length:=by
    rcases Nat.lt_or_ge j (os++ns).length with h | h
    ·exact h
    ·simp [List.getElem?_eq_none h] at hj
   rw [Array.getElem?_append_left (by simpa using hlt)]
   simpa using hj
  ·have hm:=Array.mem_of_getElem? hj
   simp only [Array.mem_append,List.mem_toArray] at hm
   rcases hm with (h | h) | h
   ·exact h1o u h
   ·exact h1n u h
   ·unfold Builtin.zeroCells at h
    obtain ⟨i,_,rfl⟩:=Array.mem_map.1 h
    have hpz:0 < z.size:=by rw [hz];exact hX.pay.pos p
    have hi:i % z.size < z.size:=Nat.mod_lt _ hpz
    rw [getElem!_pos z _ hi]
    exact h1z _ (Array.getElem_mem hi)
 ·rw [hres,hrd,hd]
  refine .arrO dst w.heap.size r _ _ (by simp [cxOf,look_rebind,bind1]) rfl (by omega) ⟨_,e,(0,0),heap_alloc_new' w.drew _,?_⟩
  simp only [Array.size_append,List.size_toArray,size_zeroCells,hz]
  rw [Nat.add_mul,←hlen,List.length_append,r2]
  omega
structure SrcR (P:Program) (C:Pay α) (cx:Cx α) (t tt ty e:TypeId) (v:Value) (q:α):Prop where
 zero:C.len q=0→∀(ad0:Option Addr) (l c0:Nat),l≤c0→(Builtin.append_ #[t,tt] ty #[.slice ad0 l c0,v]).run P cx.w=.ok (.slice ad0 l c0) cx.w
 pos:0 < C.len q→∃news:List Value,news.length=C.len q * C.esz q∧(∀u∈news,u.oneCell'=true) ∧
  (∀(i j:Nat) u d,i < C.len q→news[i * C.esz q+j]?=some u→(C.elem q i)[j]?=some d→RD C cx u d) ∧
  ∀(i:TypeInfo) (z:Value),P.info? e=some i→i.zero=some z→i.size=C.esz q→C.len q≤big →
   (C.len q * i.bytes≤281474976710656→(Builtin.append_ #[t,tt] ty #[.slice none 0 0,v]).run P cx.w =
    .ok (.slice (some ⟨cx.w.heap.size,0,none⟩) (C.len q) (grownCap cx.w (C.len q) 0 e)) (cx.w.drew.alloc (.cells (news.toArray++Builtin.zeroCells z.cells (grownCap cx.w (C.len q) 0 e - C.len q)) e))) ∧
   (∀(b:Addr) (sLen sCap:Nat) (olds:List Value),olds.length=sLen * i.size→(∀j u,olds[j]?=some u→cx.w.cell? (b.add j)=some u)→sCap < sLen+C.len q→sLen+C.len q≤big →
    Builtin.nextslicecap (sLen+C.len q) sCap * i.bytes≤281474976710656→(Builtin.append_ #[t,tt] ty #[.slice (some b) sLen sCap,v]).run P cx.w =
     .ok (.slice (some ⟨cx.w.heap.size,0,none⟩) (sLen+C.len q) (grownCap cx.w (sLen+C.len q) sCap e))
      (cx.w.drew.alloc (.cells (olds.toArray++news.toArray++Builtin.zeroCells z.cells (grownCap cx.w (sLen+C.len q) sCap e - (sLen+C.len q))) e))) ∧
   (∀(g sLen sCap:Nat) (cur:Array Value) (T:TypeId),cx.w.heap[g]?=some (.cells cur T (0,0))→sLen+C.len q≤sCap→sLen * i.size+news.length≤cur.size →
    (Builtin.append_ #[t,tt] ty #[.slice (some ⟨g,0,none⟩) sLen sCap,v]).run P cx.w =
     .ok (.slice (some ⟨g,0,none⟩) (sLen+C.len q) sCap) (cx.w.setRow g (cur.toList.take (sLen * i.size)++news++cur.toList.drop (sLen * i.size+news.length)).toArray))
theorem Src.runs {P:Program} {C:Pay α} (hC:PayOk C) {cx:Cx α} {t ty e:TypeId} {n:Nat} (ht:P.underlying t=some (.slice e)) (hn:szO P e=some n) {v:Value} {q:α} (h:Src C cx v q):SrcR P C cx t t ty e v q:=by
 obtain ⟨ad,c,rfl,hpos⟩:=h
 refine ⟨fun hm ad0 l c0 hlc=>?_,fun hq=>?_⟩
 ·rw [hm];exact run_append_zero cx.w t ty e _ ht hn ad0 ad l c0 c hlc
 ·obtain ⟨b',off',rfl,hrow⟩:=hpos hq
  obtain ⟨news,hnl,hnc,hn1',hnr⟩:=row_list hC hrow
  refine ⟨news,hnl,hn1',hnr,fun i z hi hz his hbq=>?_⟩
  unfold big at hbq
  have hnl':news.length=C.len q * i.size:=by rw [hnl,his]
  have hnc':∀j u,news[j]?=some u→cx.w.cell? ((⟨b',off',none⟩:Addr).add j)=some u:=fun j u h=>by rw [add_zero'];exact hnc j u h
  refine ⟨fun h48=>run_append_nil (P:=P) cx.w t ty e i z ht hi hz ⟨b',off',none⟩ (C.len q) c news hnl' hnc' hq (by omega) h48,fun b sLen sCap olds ho1 ho2 hg hbs hfit=>?_,fun g sLen sCap cur T hgg hroom hfit=>?_⟩
  ·unfold big at hbs
   exact run_append_grow (P:=P) cx.w t ty e i z ht hi hz b sLen sCap olds ho1 ho2 ⟨b',off',none⟩ (C.len q) c news hnl' hnc' hg (by omega) hfit
  ·exact run_append_room' (P:=P) cx.w t ty e i ht hi g sLen sCap cur T hgg ⟨b',off',none⟩ (C.len q) c news hnl' hnc' hn1' hroom hfit
theorem firstCells_str {P:Program} (w:World) (s:ByteArray) (m:Nat):(Builtin.firstCells m s.size (.string s)).run P w=.ok (s.data.map fun b=>Value.int .u8 b.toNat) w:=by
 have hx:(Array.map (fun b:UInt8=>Value.int IntKind.u8 (b.toNat:Int)) s.data).extract 0 s.size=Array.map (fun b:UInt8=>Value.int IntKind.u8 (b.toNat:Int)) s.data:=by
  have hs:s.size=(Array.map (fun b:UInt8=>Value.int IntKind.u8 (b.toNat:Int)) s.data).size:=by rw [Array.size_map];rfl
  rw [hs,Array.extract_size]
 simp [Builtin.firstCells,hx]
theorem Str.runs {P:Program} {C:Pay α} (hC:PayOk C) {cx:Cx α} {t tt ty e:TypeId} {n:Nat} (ht:P.underlying t=some (.slice e)) (htt:P.underlying tt=some .string) (hn:szO P e=some n) {s:ByteArray} {q:α}
  (hq:C.ofBytes t s.data.toList=some q):SrcR P C cx t tt ty e (.string s) q:=by
 obtain ⟨o1,_⟩:=hC.ofBytes t _ q hq
 obtain ⟨b1,b2,b3⟩:=hC.bytes q _ o1
 have hsz:s.size=C.len q:=by rw [b1];exact Array.length_toList.symm
 refine ⟨fun hm ad0 l c0 hlc=>?_,fun hpos=>?_⟩
 ·have h0:s.size=0:=by omega
  have hf:=firstCells_str (P:=P) cx.w s n
  have hd:s.data=#[]:=by have:s.data.size=0:=h0;exact Array.eq_empty_of_size_eq_zero this
  rw [h0] at hf
  simp only [hd,Array.map_empty] at hf
  cases ad0<;>simp [Builtin.append_,run_underlying ht,run_underlying htt,run_sizeOf' P cx.w hn,Builtin.lenOf,h0,hlc,hf,storeCells]
 ·refine ⟨s.data.toList.map (fun b=>Value.int .u8 b.toNat),by rw [List.length_map,b2,Nat.mul_one,b1],fun u hu=>?_,fun i j u d hi hu hd=>?_,fun i z hi hz his hbq=>?_⟩
  ·obtain ⟨b,_,rfl⟩:=List.mem_map.1 hu
   rfl
  ·rw [b3 i (by omega)] at hd
   have hj:j=0:=by
    rcases Nat.eq_zero_or_pos j with h | h
    ·exact h
    ·rw [List.getElem?_eq_none (by simp;omega)] at hd;simp at hd
   subst hj
   simp only [List.getElem?_cons_zero,Option.some.injEq] at hd
   subst hd
   rw [b2,Nat.mul_one,Nat.add_zero,List.getElem?_map,List.getElem?_eq_getElem (by omega)] at hu
   simp only [Option.map_some,Option.some.injEq] at hu
   subst hu
   refine .int _ _ ?_
   have:=UInt8.toNat_lt (s.data.toList[i]'(by omega))
   simp only [inR,Bool.and_eq_true]
   refine ⟨decide_eq_true ?_,decide_eq_true ?_⟩
   ·show (0:Int)≤_;omega
   ·show _≤(255:Int);omega
  ·unfold big at hbq
   have his1:i.size=1:=by rw [his,b2]
   have hf:=fun m=>firstCells_str (P:=P) cx.w s m
   have hfd:=fun m=>firstCells_str (P:=P) cx.w.drew s m
   have harr:(s.data.toList.map fun b=>Value.int .u8 (b.toNat:Int)).toArray=s.data.map fun b=>Value.int .u8 (b.toNat:Int):=by
    apply Array.ext'
    simp
   refine ⟨fun h48=>?_,fun b sLen sCap olds ho1 ho2 hg hbs hfit=>?_,fun g sLen sCap cur T hgg hroom hfit=>?_⟩
   ·rw [harr,←hsz]
    exact run_append_nil_string (P:=P) cx.w t tt ty e i z ht htt hi hz s (by omega) (by omega) (by rw [hsz];exact h48)
   ·unfold big at hbs
    rw [←hsz] at *
    have hn':¬ (sLen+s.size≤sCap):=by omega
    have h63':¬ (9223372036854775807 < ((sLen:Int)+(s.size:Int))):=by omega
    have h48':¬ (281474976710656 < Builtin.nextslicecap (sLen+s.size) sCap * i.bytes):=by omega
    have hfo:=run_firstCells_some (P:=P) cx.w.drew i.size sLen b sLen sCap olds ho1 (by simpa using ho2)
    simp [Builtin.append_,run_underlying ht,run_underlying htt,sizeOf,typeInfo,zeroValue,hi,hz,Builtin.lenOf,hn',h63',h48',Question.forced,hfd,hfo,newRow,grownCap]
    congr 2
    apply Array.ext'
    simp [List.append_assoc]
   ·rw [←hsz] at *
    have hst:=run_storeCells_at P g (sLen * i.size) T (s.data.toList.map (fun b=>Value.int .u8 b.toNat)) 0 cur cx.w hgg (by simpa using hfit) (fun u hu=>by obtain ⟨b,_,rfl⟩:=List.mem_map.1 hu;rfl)
    simp only [Nat.add_zero] at hst
    rw [←harr] at hf
    simp [Builtin.append_,run_underlying ht,run_underlying htt,sizeOf,typeInfo,hi,Builtin.lenOf,hroom,hf,Addr.add_lit,hst]
include hX hS in
theorem appendTo_sound (dst o n by_:Nat) (t tt ty e:TypeId) (z:Bool) (p q:α) (vx vy:Value) (hbase:Base X g hs w o vx p (X.C.len q)) (hsrc:SrcR X.P X.C (cxOf g hs w) t tt ty e vy q)
  (ht:X.P.underlying t=some (.slice e)) (hn:szO X.P e=some n) (hby:bysO X.P e=some by_) (hzz:z=true→zsz X.P e=true)
  (r:Res α) (hr:appendTo X hs tm dst o n by_ z p q=r) (hok:r.ok=true) :
  ∃v w',(Builtin.append_ #[t,tt] ty #[vx,vy]).run X.P w=.ok v w'∧OpOut X g tm hs a r v w':=by
 unfold appendTo at hr
 split at hr
 ·rename_i rr hcat
  have hr0:=hr
  subst hr
  simp only [Bool.and_eq_true] at hok
  obtain ⟨hdst,⟨⟨⟨hz,hn1⟩,hn2⟩,hb1⟩,hbg⟩:=hok
  have hn1:=Nat.eq_of_beq_eq_true hn1
  have hn2:=Nat.eq_of_beq_eq_true hn2
  have hb1:=Nat.eq_of_beq_eq_true hb1
  have hbg:=Nat.le_of_ble_eq_true hbg
  subst hn1
  obtain ⟨i,zv,hi,his,hizv,hzs,hz1'⟩:=info_of hn (hzz hz)
  have hib:i.bytes=by_:=by unfold bysO at hby;rw [hi] at hby;simpa using hby
  obtain ⟨r1,r2,r3,r4,r5,r6⟩:=hX.pay.cat p q rr hcat
  have hbig':X.C.len rr * X.C.bys rr≤big:=by rw [r1,r3,←hb1];exact hbg
  have hbytes:(X.C.len p+X.C.len q) * i.bytes≤140737488355328:=by rw [hib];exact hbg
  have hmax:X.C.len p+X.C.len q≤big:=by
   refine bys_pos_len (hX.pay.bpos p) ?_
   rw [←hb1];exact hbg
  have hmaxb:=hmax
  unfold big at hmax
  by_cases hm:X.C.len q=0
  ·
   have hrun:∀ad0 l c0,l≤c0→(Builtin.append_ #[t,tt] ty #[.slice ad0 l c0,vy]).run X.P w=.ok (.slice ad0 l c0) w:=hsrc.zero hm
   cases hbase with
   | none ad0 hv hl =>
    subst hv
    refine ⟨_,_,hrun _ _ _ (Nat.le_refl _),bind1 g.rho dst none,?_,?_⟩
    ·exact rebind_sound hX hS dst o hdst (.arr false rr) none w (toL (BelowD.refl _ _)) (fun _ _ h _=>h) (fun _ cells T fz h=>⟨cells,T,fz,h,rfl⟩) (fun b h=>by simp at h) (fun _=>by show X.C.len rr=0;omega)
    ·exact .arrN dst rr _ (by simp [cxOf,look_rebind,bind1]) (by omega)
   | full b off hv hrw hmm=>omega
   | own b c0 cells T hl hrho hv hc hh hsz =>
    subst hv
    refine ⟨_,_,hrun _ _ _ hc,bind1 g.rho dst (some b),?_,?_⟩
    ·have how:=hS.own o _ b hl hrho
     refine rebind_sound hX hS dst o hdst (.arr false rr) (some b) w (toL (BelowD.refl _ _)) (fun _ _ h _=>h) (fun _ cells T fz h=>⟨cells,T,fz,h,rfl⟩) (fun b' hb'=>?_) (fun hle=>?_)
     ·simp only [Option.some.injEq] at hb'
      subst hb'
      exact ⟨how.1,how.2,fun _=>⟨_,hl,rfl,hrho⟩⟩
     ·have hob:=hS.obs o _ hl
      rw [hrho] at hob
      have:=ObRel.grow hX.pay hle (b:=some b) (fun b' ob' _ h=>h) hob
      exact ObRel.same (fz:=false) this (by omega) r2 r3 r5
    ·refine .arrO dst b rr _ _ (by simp [cxOf,look_rebind,bind1]) (by omega) hc ⟨cells,T,(0,0),hh,by rw [r2];exact hsz⟩
  ·obtain ⟨news,hnl,hn1',hnr,hR⟩:=hsrc.pos (by omega)
   obtain ⟨hR0,hRg,hRr⟩:=hR i zv hi hizv (by rw [his,←hn2]) (by omega)
   have e0:(cxOf g hs w).w=w:=rfl
   rw [e0] at hR0 hRg hRr
   have hnl':news.length=X.C.len q * i.size:=by rw [hnl,his,←hn2]
   have hgrow:∀(os:List Value) (hos:os.length=X.C.len p * X.C.esz p) (h1o:∀u∈os,u.oneCell'=true)
     (hop:∀(i j:Nat) u d,i < X.C.len p→os[i * X.C.esz p+j]?=some u→(X.C.elem p i)[j]?=some d→RD X.C (cxOf g hs w) u d) (k:Nat),
     OpOut X g tm hs a (⟨Nat.blt dst 40000&&(z&&Nat.beq (X.C.esz p) (X.C.esz p)&&Nat.beq (X.C.esz p) (X.C.esz q)&&Nat.beq by_ (X.C.bys p)&&Nat.ble ((X.C.len p+X.C.len q) * by_) big),.arr dst,
      some (tm.map (kill (nsOf o dst)),rebind o dst (.arr false rr) hs)⟩:Res α) (.slice (some ⟨w.heap.size,0,none⟩) (X.C.len p+X.C.len q) (X.C.len p+X.C.len q+k))
      (w.drew.alloc (.cells (os.toArray++news.toArray++Builtin.zeroCells zv.cells k) e)):=by
    intro os hos h1o hop k
    rw [←r1]
    exact grown_sound hX hS dst o hdst e p q rr hcat os news hos hnl h1o hn1' hop hnr hbig' zv.cells hz1' hzs k _ rfl _ rfl rfl
   have hcap:∀c0,c0 < X.C.len p+X.C.len q→∃k,grownCap w (X.C.len p+X.C.len q) c0 e=X.C.len p+X.C.len q+k:=fun c0 _ =>
    ⟨grownCap w (X.C.len p+X.C.len q) c0 e - (X.C.len p+X.C.len q),by have:=grownCap_ge w (X.C.len p+X.C.len q) c0 e;omega⟩
   cases hbase with
   | none ad0 hv hl =>
    subst hv
    cases ad0 with
    | none =>
     have hrun:=hR0 (by rw [hl,Nat.zero_add] at hbytes;omega)
     obtain ⟨k,hk⟩:=hcap 0 (by omega)
     have hg:=hgrow [] (by simp [hl]) (by simp) (fun i j u d hi=>by omega) k
     rw [hl,Nat.zero_add] at hk hg
     refine ⟨_,_,hrun,?_⟩
     rw [hk]
     have:X.C.len q+k - X.C.len q=k:=by omega
     rw [this]
     simpa [hl] using hg
    | some ad1 =>
     have hrun:=hRg ad1 0 0 [] (by simp) (by simp) (by omega) (by omega) (growslice_fits (by omega) (by rw [Nat.zero_add];rw [hl,Nat.zero_add] at hbytes;exact hbytes))
     obtain ⟨k,hk⟩:=hcap 0 (by omega)
     have hg:=hgrow [] (by simp [hl]) (by simp) (fun i j u d hi=>by omega) k
     rw [hl] at hk hg
     refine ⟨_,_,hrun,?_⟩
     rw [hk]
     have:0+X.C.len q+k - (0+X.C.len q)=k:=by omega
     rw [this]
     simpa [hl] using hg
   | full b off hv hrw hmm =>
    subst hv
    obtain ⟨olds,hol,hoc,ho1,hor⟩:=row_list hX.pay hrw
    have hrun:=hRg ⟨b,off,none⟩ (X.C.len p) (X.C.len p) olds (by rw [hol,his]) (fun j u h=>by rw [add_zero'];exact hoc j u h) (by omega) hmaxb (growslice_fits (by omega) hbytes)
    obtain ⟨k,hk⟩:=hcap (X.C.len p) (by omega)
    refine ⟨_,_,hrun,?_⟩
    rw [hk]
    have:X.C.len p+X.C.len q+k - (X.C.len p+X.C.len q)=k:=by omega
    rw [this]
    exact hgrow olds hol ho1 hor k
   | own b c0 cells T hl hrho hv hc hh hsz =>
    subst hv
    have how:=hS.own o _ b hl hrho
    have hob:=hS.obs o _ hl
    rw [hrho] at hob
    have hob':=hob
    obtain ⟨cells',T',hh',hsz',hbg',hc1,hcr⟩:=hob
    have hh0:w.heap[b]?=some (.cells cells' T' (0,0)):=hh'
    rw [hh] at hh0
    simp only [Option.some.injEq,Obj.cells.injEq,and_true] at hh0
    obtain ⟨rfl,rfl⟩:=hh0
    have hrowp:RowAt X.C (cxOf g hs w) b 0 p:=by
     intro i' j d hi' hd
     have hj:j < X.C.esz p:=by
      rw [←hX.pay.elen p i' hi']
      rcases Nat.lt_or_ge j (X.C.elem p i').length with h | h
      ·exact h
      ·simp [List.getElem?_eq_none h] at hd
     have hlt:i' * X.C.esz p+j < cells.size:=by
      have:(i'+1) * X.C.esz p≤X.C.len p * X.C.esz p:=Nat.mul_le_mul_right _ hi'
      rw [Nat.add_mul,Nat.one_mul] at this;omega
     have hv:cells[i' * X.C.esz p+j]?=some cells[i' * X.C.esz p+j]:=by simp [hlt]
     refine ⟨_,?_,hc1 _ _ hv,hcr i' j _ d hi' hv hd⟩
     show w.cell? _=_
     rw [Nat.zero_add,cell_at hh];exact hv
    obtain ⟨olds,hol,hoc,ho1,hor⟩:=row_list hX.pay hrowp
    by_cases hroom:X.C.len p+X.C.len q≤c0
    ·have hfit:X.C.len p * i.size+news.length≤cells.size:=by
      rw [hnl',his,←Nat.add_mul];exact Nat.le_trans (Nat.mul_le_mul_right _ hroom) hsz
     have hrun:=hRr b (X.C.len p) c0 cells T hh hroom hfit
     have hnew:((cells.toList.take (X.C.len p * i.size)++news++cells.toList.drop (X.C.len p * i.size+news.length)).toArray).size=cells.size:=by simp;omega
     refine ⟨_,_,hrun,bind1 g.rho dst (some b),?_,?_⟩
     ·refine rebind_sound hX hS dst o hdst (.arr false rr) (some b) _ (setRow_belowL _ how.1 (setRow_size_of hh hnew)) (fun k ob hk hne=>?_) (setRow_size_of hh hnew) (fun b0 hb0=>?_) (fun hle=>?_)
      ·rw [setRow_other w b k _ (fun e=>hne (by rw [e]))];exact hk
      ·simp only [Option.some.injEq] at hb0
       subst hb0
       exact ⟨how.1,by simp;exact how.2,fun _=>⟨_,hl,rfl,hrho⟩⟩
      ·have htake:cells.toList.take (X.C.len p * i.size)=olds:=by
        apply List.ext_getElem?
        intro k
        rw [List.getElem?_take]
        by_cases hk:k < X.C.len p * i.size
        ·rw [if_pos hk]
         have hk':k < olds.length:=by rw [hol,←his];exact hk
         have:=hoc k _ (List.getElem?_eq_getElem hk')
         rw [Nat.zero_add] at this
         have h2:w.cell? ⟨b,k,none⟩=cells[k]?:=cell_at hh
         rw [List.getElem?_eq_getElem hk',←this]
         show cells.toList[k]?=w.cell? _
         rw [h2];simp
        ·rw [if_neg hk,List.getElem?_eq_none (by rw [hol,←his];omega)]
       refine ObRel.row hX.pay hcat hol hnl (fun k u hu=>?_) (fun k u hu=>?_) (row_closed hX hle hor) (row_closed hX hle hnr) (setRow_heap w b cells _ T (0,0) hh) hbig' false
       ·rw [htake,List.getElem?_toArray,List.getElem?_append_left]
        ·exact hu
        ·rcases Nat.lt_or_ge k (olds++news).length with h | h
         ·exact h
         ·simp [List.getElem?_eq_none h] at hu
       ·simp only [List.getElem?_toArray] at hu
        have hmem:=List.mem_of_getElem? hu
        simp only [List.mem_append] at hmem
        rcases hmem with (h | h) | h
        ·exact ho1 u (by rw [←htake];exact h)
        ·exact hn1' u h
        ·have:=List.mem_of_mem_drop h
         obtain ⟨k',hk'⟩:=List.mem_iff_getElem?.1 this
         exact hc1 k' u (by simpa using hk')
     ·rw [←r1]
      exact .arrO dst b rr _ _ (by simp [cxOf,look_rebind,bind1]) rfl (by omega) ⟨_,T,(0,0),setRow_heap w b cells _ T (0,0) hh,by rw [hnew,r2];exact hsz⟩
    ·have hrun:=hRg ⟨b,0,none⟩ (X.C.len p) c0 olds (by rw [hol,his]) (fun j u h=>by rw [add_zero'];exact hoc j u h) (by omega) hmaxb (growslice_fits (by omega) hbytes)
     obtain ⟨k,hk⟩:=hcap c0 (by omega)
     refine ⟨_,_,hrun,?_⟩
     rw [hk]
     have:X.C.len p+X.C.len q+k - (X.C.len p+X.C.len q)=k:=by omega
     rw [this]
     exact hgrow olds hol ho1 hor k
 ·subst hr;simp [Res.no] at hok
end
end Go.Eng
namespace Go.Eng
open Go.RowKit
variable {α:Type}
section
variable {X:Ctx α} (hX:XOk X) {g:Gh} {tm:List (D α)} {hs:Obs α} {a:Act} {w:World} (hS:Sim X g tm hs a w)
def avBut (g:Gh) (hs:Obs α) (w:World) (ns:List Nat) (b:Nat):Prop:=(cxOf g hs w).av b∧∀o ob,o∈ns→look hs o=some ob→g.rho o≠some b
theorem avBut_av {ns:List Nat}:∀b,avBut g hs w ns b→(cxOf g hs w).av b:=fun _ h=>h.1
theorem avBut_ns {ns:List Nat}:∀o ob b,o∈ns→look hs o=some ob→g.rho o=some b→¬ avBut g hs w ns b:=fun o ob _ ho hl hr h=>h.2 o ob ho hl hr
include hS in
theorem frozen_of_out {C:Pay α} {ns:List Nat} {w':World}:CxLe C (fun _=>true) (cx0 w' (avBut g hs w ns):Cx α) (cxOf g (freeze hs ns) w') where
  cell:=fun _ _ _ h=>h
  av := fun b _ _ hav hav' => by
    rcases hav' with h0 | ⟨o,ob,hl,hf,hr⟩
    · exact hav ⟨.inl h0,fun o ob ho hl hr=>hS.not0 hl hr h0⟩
    · rw [look_freeze] at hl
      by_cases hm:o∈ns
      · rw [if_pos hm] at hl
        obtain ⟨y,_,rfl⟩:=Option.map_eq_some_iff.1 hl
        cases y<;>simp [freezeOb,Ob.fz] at hf
      · rw [if_neg hm] at hl
        refine hav ⟨.inr ⟨o,ob,hl,hf,hr⟩,fun o' ob' ho' hl' hr'=>?_⟩
        exact hm (by rw [hS.inj o o' ob ob' b hl hl' hr hr'];exact ho')
  bx:=fun _ _ h=>by simp at h
  ar:=fun _ _ _ h=>by simp at h
  size:=fun _ cells T fz h=>⟨cells,T,fz,h,rfl⟩
theorem optI_sound {C:Pay α} {cx:Cx α} {l:Option (D α)} {vl:Option Value} (hr:∀d v,l=some d→vl=some v→RD C cx v d) (hs:l.isSome=vl.isSome) {z i:Int} (h:optI l z=some i) :
  (vl=none∧i=z)∨∃k,vl=some (.int k i):=by
 cases l with
 | none =>
  cases vl with
  | none=>simp only [optI,Option.some.injEq] at h;exact .inl ⟨rfl,h.symm⟩
  | some v=>simp at hs
 | some d =>
  cases vl with
  | none=>simp at hs
  | some v =>
   have:=hr d v rfl rfl
   cases d<;>simp only [optI,reduceCtorEq] at h
   simp only [Option.some.injEq] at h
   subst h
   cases this
   exact .inr ⟨_,rfl⟩
theorem run_bounds2 {P:Program} (w:World) (isSlice:Bool) {len cap:Nat} {lo hi:Option Value} {x y:Int}
  (hlo:(lo=none∧x=0)∨∃k,lo=some (.int k x)) (hhi:(hi=none∧y=len)∨∃k,hi=some (.int k y)) (h0:0≤x) (h1:x≤y) (h2:y≤len) (hc:len≤cap) :
  (Instr.sliceBounds isSlice len cap lo hi none).run P w=.ok (x.toNat,y.toNat,cap) w:=by
 obtain ⟨x,rfl⟩:=Int.eq_ofNat_of_zero_le h0
 obtain ⟨y,rfl⟩:=Int.eq_ofNat_of_zero_le (by omega:0≤y)
 have hb:∀(k:IntKind) (n m:Nat) (code:BoundsCode),n≤m→(Instr.sliceBound (.int k n) m code).run P w=.ok n w:=by
  intro k n m code h
  simp [Instr.sliceBound,asIntOf,h]
 have hy:y≤cap:=by omega
 rcases hlo with ⟨rfl,hx⟩ | ⟨k,rfl⟩<;>rcases hhi with ⟨rfl,hy'⟩ | ⟨k',rfl⟩
 ·have:x=0:=by omega
  have:y=len:=by omega
  subst_vars;simp [Instr.sliceBounds]
 ·have:x=0:=by omega
  subst this;simp [Instr.sliceBounds,hb _ _ _ _ hy]
 ·have:y=len:=by omega
  subst this;simp [Instr.sliceBounds,hb _ _ _ _ (by omega:x≤y)]
 ·simp [Instr.sliceBounds,hb _ _ _ _ hy,hb _ _ _ _ (by omega:x≤y)]
theorem run_bounds3 {P:Program} (w:World) {len cap:Nat} {lo:Option Value} {k k':IntKind} {x y:Int}
  (hlo:(lo=none∧x=0)∨∃k,lo=some (.int k x)) (h0:0≤x) (h1:x≤y) (h2:y≤len) (hc:len≤cap) :
  (Instr.sliceBounds true len cap lo (some (.int k y)) (some (.int k' y))).run P w=.ok (x.toNat,y.toNat,y.toNat) w:=by
 obtain ⟨x,rfl⟩:=Int.eq_ofNat_of_zero_le h0
 obtain ⟨y,rfl⟩:=Int.eq_ofNat_of_zero_le (by omega:0≤y)
 have hb:∀(k:IntKind) (n m:Nat) (code:BoundsCode),n≤m→(Instr.sliceBound (.int k n) m code).run P w=.ok n w:=by
  intro k n m code h
  simp [Instr.sliceBound,asIntOf,h]
 have hy:y≤cap:=by omega
 rcases hlo with ⟨rfl,hx⟩ | ⟨k,rfl⟩
 ·have:x=0:=by omega
  subst this;simp [Instr.sliceBounds,hb _ _ _ _ hy,hb _ _ _ _ (Nat.le_refl y)]
 ·simp [Instr.sliceBounds,hb _ _ _ _ hy,hb _ _ _ _ (Nat.le_refl y),hb _ _ _ _ (by omega:x≤y)]
theorem run_bounds2c {P:Program} (w:World) {len cap:Nat} {lo hi:Option Value} {x y:Int}
  (hlo:(lo=none∧x=0)∨∃k,lo=some (.int k x)) (hhi:(hi=none∧y=len)∨∃k,hi=some (.int k y)) (h0:0≤x) (h1:x≤y) (h2:y≤cap) :
  (Instr.sliceBounds true len cap lo hi none).run P w=.ok (x.toNat,y.toNat,cap) w:=by
 obtain ⟨x,rfl⟩:=Int.eq_ofNat_of_zero_le h0
 obtain ⟨y,rfl⟩:=Int.eq_ofNat_of_zero_le (by omega:0≤y)
 have hb:∀(k:IntKind) (n m:Nat) (code:BoundsCode),n≤m→(Instr.sliceBound (.int k n) m code).run P w=.ok n w:=by
  intro k n m code h
  simp [Instr.sliceBound,asIntOf,h]
 have hy:y≤cap:=by omega
 rcases hlo with ⟨rfl,hx⟩ | ⟨k,rfl⟩<;>rcases hhi with ⟨rfl,hy'⟩ | ⟨k',rfl⟩
 ·have:x=0:=by omega
  have:y=len:=by omega
  subst_vars;simp [Instr.sliceBounds]
 ·have:x=0:=by omega
  subst this;simp [Instr.sliceBounds,hb _ _ _ _ hy]
 ·have:y=len:=by omega
  subst this;simp [Instr.sliceBounds,hb _ _ _ _ (by omega:x≤y)]
 ·simp [Instr.sliceBounds,hb _ _ _ _ hy,hb _ _ _ _ (by omega:x≤y)]
theorem extract_data (s:ByteArray) (i j:Nat):(s.extract i j).data.toList=(s.data.toList.drop i).take (j - i):=by
 have:s=ByteArray.mk s.data.toList.toArray:=by simp
 rw [this,ByteArray.extract_mk]
theorem slice_pl {C:Pay α} (hC:PayOk C) {cx:Cx α} {ad:Option Addr} {n c:Nat} {p:α} {k k':SK} (h:RD C cx (.slice ad n c) (.pl p k)) {x y m:Nat} (h1:x≤y) (h2:y≤C.len p) (hm:y≤m)
  (hk':k'=.any∨(k'=.full∧m=y)) :
  RD C cx (.slice (if m=x then ad else ad.map (·.add (x * C.esz p))) (y - x) (m - x)) (.pl (C.cut p x (y - x)) k'):=by
 obtain ⟨c1,c2,c3,c4⟩:=hC.cut p x (y - x) (by omega)
 have hkk:∀ad',okK k' ad' (y - x) (m - x):=by
  intro ad'
  rcases hk' with rfl | ⟨rfl,rfl⟩
  ·trivial
  ·rfl
 have hns:isSp k'=false:=by rcases hk' with rfl | ⟨rfl,_⟩<;>rfl
 have hnsp:∀w p b off n c,SpOk C w p k' b off n c:=by intro w p b off n c;rcases hk' with rfl | ⟨rfl,_⟩<;>exact True.intro
 by_cases h0:y - x=0
 ·rw [h0] at c1 hkk ⊢
  exact .pl0 _ _ _ _ c1 (hkk _) hns
 ·cases h with
  | pl0 _ _ _ _ hl hk=>omega
  | pl b off _ _ _ _ vs hn hc hb hk hav hcell h1c hrd hsp' hal =>
   have hne:¬ m=x:=by omega
   rw [if_neg hne]
   simp only [Option.map_some,add_zero']
   refine .pl b _ _ _ _ _ (fun i j=>vs (x+i) j) c1.symm (by omega) ?_ (hkk _) hav (fun i j d hi hd=>?_) (fun i j d hi hd=>?_) (fun i j d hi hd=>?_) (hnsp _ _ _ _ _ _) (fun ha=>by
    rw [hC.alcut] at ha
    obtain ⟨a0,cells,T,hh⟩:=hal ha
    exact ⟨by rw [c2,Nat.add_mul_mod_self_right];exact a0,cells,T,hh⟩)
   ·rw [c3];exact Nat.le_trans (Nat.mul_le_mul_right _ (by omega)) hb
   ·rw [c4 i hi] at hd
    have:=hcell (x+i) j d (by omega) hd
    rw [c2]
    rw [Nat.add_mul] at this
    rw [←this]
    congr 2;omega
   ·rw [c4 i hi] at hd;exact h1c (x+i) j d (by omega) hd
   ·rw [c4 i hi] at hd;exact hrd (x+i) j d (by omega) hd
theorem spare_pl {C:Pay α} (hC:PayOk C) {cx:Cx α} {ad:Option Addr} {n c:Nat} {p q r:α} {t:TypeId} {x:UInt8} {s:List UInt8} (h:RD C cx (.slice ad n c) (.pl p (.spare (x::s)))) (hq:C.ofBytes t (x::s)=some q) (hr:C.cat p q=some r) :
  RD C cx (.slice ad (C.len r) c) (.pl r .any)∧C.len r≤c∧n=C.len p:=by
 obtain ⟨r1,r2,r3,r4,r5,r6⟩:=hC.cat p q r hr
 obtain ⟨q1,q2,q3⟩:=hC.bytes q _ (hC.ofBytes t _ q hq).1
 cases h with
 | pl0 _ _ _ _ hl hk hsp=>simp [isSp] at hsp
 | pl b off _ _ _ _ vs hn hc hb hk hav hcell h1 hrd hsp =>
  obtain ⟨s1,s2,s3,s4⟩:=hsp
  have hlen:C.len r=n+(x::s).length:=by rw [r1,q1,hn]
  have hlt:∀i,¬ i < n→i < C.len r→i - n < (x::s).length:=by intro i h1 h2;omega
  have hel:∀i (h1:¬ i < n) (h2:i < C.len r),C.elem r i=[.int .u8 ((x::s)[i - n]'(hlt i h1 h2)).toNat]:=by
   intro i h1 h2
   have:=r6 (i - n) (by rw [q1];exact hlt i h1 h2)
   rw [show C.len p+(i - n)=i by omega] at this
   rw [this]
   exact q3 _ (hlt i h1 h2)
  have hnal:C.al r=false:=(hC.alcat p q r hr).trans (hC.albytes q _ (hC.ofBytes t _ q hq).1)
  refine ⟨.pl b off _ _ _ .any (fun i j=>if i < n then vs i j else .int .u8 (((x::s)[i - n]?).getD 0).toNat) rfl (by omega) (by rw [hlen,r3];exact s2) trivial hav (fun i j d hi hd=>?_) (fun i j d hi hd=>?_) (fun i j d hi hd=>?_) True.intro (fun ha=>by rw [hnal] at ha;cases ha),by omega,hn⟩
  ·by_cases hin:i < n
   ·rw [r5 i (by omega)] at hd
    simp only [hin,if_true]
    rw [r2]
    exact hcell i j d hin hd
   ·have hd':=hd
    rw [hel i hin hi] at hd'
    have hj:j=0:=by
     cases j with
     | zero=>rfl
     | succ j=>simp at hd'
    subst hj
    simp only [hin,if_false]
    have:=s4 (i - n) (hlt i hin hi)
    rw [r2,s3,List.getElem?_eq_getElem (hlt i hin hi)]
    simp only [Option.getD_some]
    rw [←this]
    congr 2
    omega
  ·by_cases hin:i < n
   ·rw [r5 i (by omega)] at hd
    simp only [hin,if_true]
    exact h1 i j d hin hd
   ·simp only [hin,if_false];rfl
  ·by_cases hin:i < n
   ·rw [r5 i (by omega)] at hd
    simp only [hin,if_true]
    exact hrd i j d hin hd
   ·have hd':=hd
    rw [hel i hin hi] at hd'
    have hj:j=0:=by
     cases j with
     | zero=>rfl
     | succ j=>simp at hd'
    subst hj
    simp only [List.getElem?_cons_zero,Option.some.injEq] at hd'
    subst hd'
    simp only [hin,if_false]
    rw [List.getElem?_eq_getElem (hlt i hin hi)]
    simp only [Option.getD_some]
    exact .int _ _ (inR_u8 _)
theorem slice_sp {C:Pay α} (hC:PayOk C) {cx:Cx α} {ad:Option Addr} {n c:Nat} {p:α} {s:List UInt8} (h:RD C cx (.slice ad n c) (.pl p .any)) (hs:C.bytes p=some s) {y:Nat} (h2:y≤C.len p) (hnc:n≤c) :
  RD C cx (.slice (if c=0 then ad else ad.map (·.add (0 * C.esz p))) (y - 0) (c - 0)) (.pl (C.cut p 0 (y - 0)) (.spare (s.drop y))):=by
 obtain ⟨q1,q2,q3⟩:=hC.bytes p _ hs
 obtain ⟨c1,c2,c3,c4⟩:=hC.cut p 0 (y - 0) (by omega)
 cases h with
 | pl0 _ _ _ _ hl hk =>
  have hy:y=0:=by omega
  subst hy
  have hs0:s=[]:=List.length_eq_zero_iff.1 (by omega)
  subst hs0
  exact .pl0 _ _ _ _ c1 trivial rfl
 | pl b off _ _ _ _ vs hn hc hb hk hav hcell h1c hrd =>
  have hel:∀i (h:i < n),C.elem p i=[.int .u8 (s[i]'(by omega)).toNat]:=fun i h=>q3 i (by omega)
  have hv:∀i (h:i < n),vs i 0=.int .u8 (s[i]'(by omega)).toNat:=by
   intro i h
   have:=hrd i 0 _ h (by rw [hel i h];rfl)
   generalize vs i 0=u at this ⊢
   cases this
   rfl
  have hlast:RD C cx (.slice (some ⟨b,off,none⟩) y c) (.pl (C.cut p 0 (y - 0)) (.spare (s.drop y))):=by
   refine .pl b off y c _ _ vs (by rw [c1];omega) (by omega) ?_ trivial hav (fun i j d hi hd=>?_) (fun i j d hi hd=>?_) (fun i j d hi hd=>?_) ⟨?_,?_,?_,fun i h=>?_⟩ (fun ha=>by rw [hC.alcut,hC.albytes p _ hs] at ha;cases ha)
   ·rw [c3];exact Nat.le_trans (Nat.mul_le_mul_right _ (by omega)) hb
   ·rw [c4 i (by omega),Nat.zero_add] at hd
    rw [c2];exact hcell i j d (by omega) hd
   ·rw [c4 i (by omega),Nat.zero_add] at hd
    exact h1c i j d (by omega) hd
   ·rw [c4 i (by omega),Nat.zero_add] at hd
    exact hrd i j d (by omega) hd
   ·rw [List.length_drop];omega
   ·rw [List.length_drop,c3];exact Nat.le_trans (Nat.mul_le_mul_right _ (by omega)) hb
   ·rw [c2];exact q2
   ·rw [List.length_drop] at h
    have hi:y+i < n:=by omega
    have:=hcell (y+i) 0 _ hi (by rw [hel _ hi];rfl)
    rw [hv _ hi,q2] at this
    rw [List.getElem_drop,←this]
    congr 2
    omega
  by_cases h0:c=0
  ·rw [if_pos h0];exact hlast
  ·rw [if_neg h0]
   simp only [Option.map_some,Nat.zero_mul,add_zero',Nat.sub_zero] at hlast ⊢
   exact hlast
theorem sliceAt_slice {P:Program} (w:World) {t:TypeId} {d:TypeDesc} (hu:P.underlying t=some d) (hd:∀n e,d≠.array n e) (x:Value) (lo hi mx:Option Value) :
  (Instr.sliceAt t x lo hi mx).run P w=(Instr.slice t x lo hi mx).run P w:=by
 unfold Instr.sliceAt
 simp only [Sem.run_bind,run_underlying hu,Result.andThen_ok]
include hX hS in
theorem sliceD_sound (t:TypeId) (x:D α) (vx:Value) (l h m:Option (D α)) (vl vh vm:Option Value) (hx:RD X.C (cxOf g hs w) vx x)
  (hl:∀d v,l=some d→vl=some v→RD X.C (cxOf g hs w) v d) (hl':l.isSome=vl.isSome) (hh:∀d v,h=some d→vh=some v→RD X.C (cxOf g hs w) v d) (hh':h.isSome=vh.isSome)
  (hm:∀d v,m=some d→vm=some v→RD X.C (cxOf g hs w) v d) (hm':m.isSome=vm.isSome) (r:Res α) (hr:sliceD X hs tm t x l h m=r) (hok:r.ok=true) :
  ∃v,(Instr.sliceAt t vx vl vh vm).run X.P w=.ok v w∧OpOut X g tm hs a r v w:=by
 have hno:(Res.no:Res α).ok=true→False:=by simp [Res.no]
 unfold sliceD at hr
 split at hr
 ·rename_i s hu
  have hvm:vm=none:=by cases vm<;>simp_all
  subst hvm
  split at hr
  ·rename_i i j hi hj
   subst hr
   simp only [Res.if,Bool.and_eq_true,decide_eq_true_eq] at hok
   obtain ⟨⟨h0,h1⟩,h2⟩:=hok
   cases hx with | str s' _ hs' hbig =>
   have hlen:s'.size=s.length:=by rw [size_len,hs']
   have hb:=run_bounds2 (P:=X.P) w false (len:=s'.size) (cap:=s'.size) (optI_sound hl hl' hi) (by rw [hlen];exact optI_sound hh hh' hj) h0 h1 (by rw [hlen];exact h2) (Nat.le_refl _)
   refine ⟨.string (s'.extract i.toNat j.toNat),?_,OpOut.pure hX hS rfl (.str _ _ ?_ ?_)⟩
   ·rw [sliceAt_slice w hu (by simp)]
    simp [Instr.slice,run_underlying hu,hb]
   ·rw [extract_data,hs']
   ·simp only [List.length_take,List.length_drop];omega
  ·subst hr;exact (hno hok).elim
 ·rename_i e hu
  have hvm:vm=none:=by cases vm<;>simp_all
  subst hvm
  split at hr
  ·rename_i n i j hn hi hj
   subst hr
   simp only [Res.if,Bool.and_eq_true,beq_iff_eq] at hok
   obtain ⟨rfl,rfl⟩:=hok
   cases hx
   have hb:=run_bounds2 (P:=X.P) w true (len:=0) (cap:=0) (optI_sound hl hl' hi) (optI_sound hh hh' hj) (by omega) (by omega) (by omega) (Nat.le_refl _)
   refine ⟨.slice none 0 0,?_,OpOut.pure hX hS rfl .nilS⟩
   rw [sliceAt_slice w hu (by simp)]
   simp [Instr.slice,run_underlying hu,run_sizeOf' X.P w hn,hb]
  ·subst hr;exact (hno hok).elim
 ·rename_i e k c hu
  split at hr
  ·rename_i n i kb j hn hi
   subst hr
   simp only [Res.if,Bool.and_eq_true,beq_iff_eq] at hok
   obtain ⟨⟨rfl,rfl⟩,rfl⟩:=hok
   cases hx
   obtain ⟨vh',rfl⟩:∃v,vh=some v:=by cases vh with | none=>simp at hh' | some v=>exact ⟨v,rfl⟩
   obtain ⟨vm',rfl⟩:∃v,vm=some v:=by cases vm with | none=>simp at hm' | some v=>exact ⟨v,rfl⟩
   have e1:=hh _ _ rfl rfl
   have e2:=hm _ _ rfl rfl
   cases e1
   cases e2
   have hb:=run_bounds3 (P:=X.P) w (len:=0) (cap:=0) (k:=kb) (k':=k) (x:=0) (y:=0) (optI_sound hl hl' hi) (by omega) (by omega) (by omega) (Nat.le_refl _)
   refine ⟨.slice none 0 0,?_,OpOut.pure hX hS rfl .nilS⟩
   rw [sliceAt_slice w hu (by simp)]
   simp [Instr.slice,run_underlying hu,run_sizeOf' X.P w hn,hb]
  ·subst hr;exact (hno hok).elim
 ·rename_i e p k hu
  have hvm:vm=none:=by cases vm<;>simp_all
  subst hvm
  split at hr
  ·rename_i n i j hn hi hj
   split at hr
   ·rename_i r0 hsp
    subst hr
    simp only [Res.if,Bool.and_eq_true,decide_eq_true_eq] at hok
    obtain ⟨⟨⟨hn1,h0⟩,h1⟩,h2⟩:=hok
    obtain rfl:=Nat.eq_of_beq_eq_true hn1
    unfold spareD at hsp
    split at hsp
    ·split at hsp
     ·rename_i x s q hq
      obtain ⟨ad,nn,c,rfl⟩:∃ad nn c,vx=.slice ad nn c:=by
       cases hx with
       | pl0 ad c _ _ hl hk=>exact ⟨ad,0,c,rfl⟩
       | pl b off nn c _ _ vs hn hc _ _ _ _ _ _=>exact ⟨_,nn,c,rfl⟩
      obtain ⟨hx1,hc,hnn⟩:=spare_pl hX.pay hx hq hsp
      have hesz:=(hX.pay.cat p q r0 hsp).2.1
      have hb:=run_bounds2c (P:=X.P) w (len:=nn) (cap:=c) (optI_sound hl hl' hi) (by rw [hnn];exact optI_sound hh hh' hj) h0 h1 (by omega)
      refine ⟨_,?_,OpOut.pure hX hS rfl (slice_pl hX.pay hx1 (x:=i.toNat) (y:=j.toNat) (m:=c) (by omega) (by omega) (by omega) (.inl rfl))⟩
      rw [sliceAt_slice w hu (by simp),hesz]
      simp [Instr.slice,run_underlying hu,run_sizeOf' X.P w hn,hb]
     ·simp at hsp
    ·simp at hsp
   subst hr
   simp only [Res.if,Bool.and_eq_true,decide_eq_true_eq] at hok
   obtain ⟨⟨⟨hn1,h0⟩,h1⟩,h2⟩:=hok
   obtain rfl:=Nat.eq_of_beq_eq_true hn1
   obtain ⟨ad,nn,c,rfl,hnn,hc⟩:∃ad nn c,vx=.slice ad nn c∧nn=X.C.len p∧nn≤c:=by
    cases hx with
    | pl0 ad c _ _ hl hk=>exact ⟨ad,0,c,rfl,hl.symm,Nat.zero_le _⟩
    | pl b off nn c _ _ vs hn hc _ _ _ _ _ _=>exact ⟨_,nn,c,rfl,hn,hc⟩
   have hb:=run_bounds2 (P:=X.P) w true (len:=nn) (cap:=c) (optI_sound hl hl' hi) (by rw [hnn];exact optI_sound hh hh' hj) h0 h1 (by omega) hc
   refine ⟨_,?_,OpOut.pure hX hS rfl (slice_pl hX.pay hx (x:=i.toNat) (y:=j.toNat) (m:=c) (by omega) (by omega) (by omega) (.inl rfl))⟩
   rw [sliceAt_slice w hu (by simp)]
   simp [Instr.slice,run_underlying hu,run_sizeOf' X.P w hn,hb]
  ·subst hr;exact (hno hok).elim
 ·rename_i e p k k' c0 hu
  split at hr
  ·rename_i n i kb j hn hi
   subst hr
   simp only [Res.if,Bool.and_eq_true,decide_eq_true_eq,beq_iff_eq] at hok
   obtain ⟨⟨⟨⟨hn1,h0⟩,h1⟩,h2⟩,rfl⟩:=hok
   obtain rfl:=Nat.eq_of_beq_eq_true hn1
   obtain ⟨ad,nn,c,rfl,hnn,hc⟩:∃ad nn c,vx=.slice ad nn c∧nn=X.C.len p∧nn≤c:=by
    cases hx with
    | pl0 ad c _ _ hl hk=>exact ⟨ad,0,c,rfl,hl.symm,Nat.zero_le _⟩
    | pl b off nn c _ _ vs hn hc _ _ _ _ _ _=>exact ⟨_,nn,c,rfl,hn,hc⟩
   obtain ⟨vh',rfl⟩:∃v,vh=some v:=by cases vh with | none=>simp at hh' | some v=>exact ⟨v,rfl⟩
   obtain ⟨vm',rfl⟩:∃v,vm=some v:=by cases vm with | none=>simp at hm' | some v=>exact ⟨v,rfl⟩
   have e1:=hh _ _ rfl rfl
   have e2:=hm _ _ rfl rfl
   cases e1
   cases e2
   have hb:=run_bounds3 (P:=X.P) w (len:=nn) (cap:=c) (k:=kb) (k':=k') (optI_sound hl hl' hi) h0 h1 (by omega) hc
   refine ⟨_,?_,OpOut.pure hX hS rfl (slice_pl hX.pay hx (x:=i.toNat) (y:=c0.toNat) (m:=c0.toNat) (by omega) (by omega) (by omega) (.inr ⟨rfl,rfl⟩))⟩
   rw [sliceAt_slice w hu (by simp)]
   simp [Instr.slice,run_underlying hu,run_sizeOf' X.P w hn,hb]
  ·subst hr;exact (hno hok).elim
 ·rename_i e o hu
  have hvm:vm=none:=by cases vm<;>simp_all
  subst hvm
  split at hr
  ·rename_i fz p n i hlo hn hi
   split at hr
   ·rename_i j hj
    subst hr
    simp only [Bool.and_eq_true,decide_eq_true_eq] at hok
    obtain ⟨⟨⟨hn1,h0⟩,h1⟩,h2⟩:=hok
    obtain rfl:=Nat.eq_of_beq_eq_true hn1
    have hx0:=(lend_sound hX hS (avBut g hs w [o]) avBut_av 40).1 (.arr o) vx (.pl p .any) [o] hx (by simp [lend,hlo]) avBut_ns
    obtain ⟨ad,nn,c,rfl,hnn,hc⟩:∃ad nn c,vx=.slice ad nn c∧nn=X.C.len p∧nn≤c:=by
     cases hx0 with
     | pl0 ad c _ _ hl hk=>exact ⟨ad,0,c,rfl,hl.symm,Nat.zero_le _⟩
     | pl b off nn c _ _ vs hn hc _ _ _ _ _ _=>exact ⟨_,nn,c,rfl,hn,hc⟩
    have hb:=run_bounds2 (P:=X.P) w true (len:=nn) (cap:=c) (optI_sound hl hl' hi) (by rw [hnn];exact optI_sound hh hh' hj) h0 h1 (by omega) hc
    obtain ⟨hs1,hle⟩:=sim_freeze hX hS [o]
    unfold spk
    split
    ·rename_i dh s hbs
     simp only [optI,Option.some.injEq] at hi
     subst hi
     refine ⟨_,?_,g.rho,hs1,RD.closedTo hX.pay (frozen_of_out hS) rfl (slice_sp hX.pay hx0 hbs (y:=j.toNat) (by omega) hc)⟩
     rw [sliceAt_slice w hu (by simp)]
     simp [Instr.slice,run_underlying hu,run_sizeOf' X.P w hn,hb]
    ·refine ⟨_,?_,g.rho,hs1,RD.closedTo hX.pay (frozen_of_out hS) rfl (slice_pl hX.pay hx0 (x:=i.toNat) (y:=j.toNat) (m:=c) (by omega) (by omega) (by omega) (.inl rfl))⟩
     rw [sliceAt_slice w hu (by simp)]
     simp [Instr.slice,run_underlying hu,run_sizeOf' X.P w hn,hb]
   ·subst hr;exact (hno hok).elim
  ·subst hr;exact (hno hok).elim
 ·subst hr;exact (hno hok).elim
def CallOk (P:Program) (f:FuncId) (vs:Array Value) (w:World) (Post:Value→World→Prop):Prop :=
 ((callFunc f vs).run P w=.ok (.enter f vs) w∧Calls P f vs w fun e w'=>∃v,e=.returned v∧Post v w') ∨
 ∃v w',(callFunc f vs).run P w=.ok (.value v) w'∧Post v w'
def cxN (w:World) (av:Nat→Prop) (o:Nat) (bn:Option Nat) (p:α):Cx α where
 w:=w
 av:=fun b=>av b∨bn=some b
 bx:=fun _=>none
 ar:=fun x=>if x=o then some (bn,p) else none
def OwnPost (C:Pay α) (n0:Nat) (av:Nat→Prop) (v:Value) (w':World):D α→Prop
 | .ow k e=>∀p kk,atP k e=some (.pl p kk)→∃bn,(∀b,bn=some b→n0≤b∧b < w'.heap.size)∧∀o,RD C (cxN w' av o bn p) v (putP k (.arr o) e)∧ObRel C (cxN w' av o bn p) bn (.arr false p)
 | _=>True
def GlobOk (C:Pay α) (glob:Nat→Option (List (D α))) (w:World) (av:Nat→Prop):Prop :=
 ∀i cs,glob i=some cs→RD C (cx0 w av) (.pointer (some ⟨i,0,none⟩)) (.ref cs)∧GSz w i cs.length
def SoundAt (P:Program) (C:Pay α) (glob:Nat→Option (List (D α))) (f:FuncId) (ds:List (D α)) (d:D α):Prop :=
 ∀(w:World) (av:Nat→Prop) (vs:Array Value),GlobOk C glob w av→(∀b,av b→b < w.heap.size)→vs.size=ds.length →
  (∀(i:Nat) v c,vs[i]?=some v→ds[i]?=some c→RD C (cx0 w av) v c) →
  CallOk P f vs w fun v w'=>RD C (cx0 w' av) v d∧BelowD C.dr w.heap.size w w'∧OwnPost C w.heap.size av v w' d
def act0:Act:={ tmps:=#[],defers:=[] }
def ctx0 (P:Program) (C:Pay α) (glob:Nat→Option (List (D α))):Ctx α:={ P:=P,C:=C,R:=fun _ _=>none,glob:=glob,plainT:=fun _=>false,N:=0 }
def sameKind:Ob α→Ob α→Prop
 | .box _ _,.box _ _=>True
 | .arr _ _,.arr _ _=>True
 | .map _ _,.map _ _=>True
 | _,_=>False
def SoundM (P:Program) (C:Pay α) (glob:Nat→Option (List (D α))) (f:FuncId) (H:Obs α) (ds:List (D α)) (d:D α) (H':Obs α):Prop :=
 ∀(g:Gh) (vs:Array Value),(∀c,g.top c=none)→Sim (ctx0 P C glob) g [] H act0 g.w0→vs.size=ds.length →
  (∀(i:Nat) v c,vs[i]?=some v→ds[i]?=some c→RD C (cxOf g H g.w0) v c) →
  CallOk P f vs g.w0 fun v w'=>∃rho',Sim (ctx0 P C glob) { g with rho:=rho' } [] H' act0 w'∧RD C (cxOf { g with rho:=rho' } H' w') v d ∧
   ∀c ob,Nat.blt c 100000=true→look H c=some ob→rho' c=g.rho c∧∃ob',look H' c=some ob'∧∀f p,ob'≠.arr f p
def SoundG (P:Program) (C:Pay α) (glob:Nat→Option (List (D α))) (f:FuncId) (ds:List (D α)) (d:D α):Prop :=
 (Nat.blt f 1000000=true→SoundAt P C glob f ds d) ∧
 (Nat.blt f 1000000=false→∀os e ds' os' d',ds=.env os e::ds'→d=.env os' d'→SoundM P C glob (f - 1000000) (decH os) ds' d' (decH os'))
def ROk (X:Ctx α):Prop:=∀f ds b d,X.R f ds=some (b,d)→b=true→SoundG X.P X.C X.glob f ds d
include hX hS in
theorem glob_av {av:Nat→Prop} (hav':∀b,av b→(cxOf g hs w).av b):GlobOk X.C X.glob w av:=by
 intro i cs h
 obtain ⟨h0,cells,T,fz,hh,hz⟩:=hS.glob i cs h
 obtain ⟨c1,T1,f1,k1,k2⟩:=hS.below.row i cells T fz (lt_of_heap hh) hh
 refine ⟨?_,c1,T1,f1,k1,k2.trans hz⟩
 refine RD.grow hX.pay (cx:=cx0 g.w0 (fun b=>g.av0 b∨g.lent b)) ⟨fun b ob hav hb=>?_,fun b ob hb hav hv=>?_,fun _ _ _ h=>by simp [cx0] at h,fun _ _ _ _ h=>by simp [cx0] at h,fun b cells T fz hb=>?_⟩ h0
 ·show w.heap[b]?=_
  rw [hS.below.block b (lt_of_heap hb) (fun h=>hav (.inr h))];exact hb
 ·rcases hav' b hv with h1 | ⟨o,ob',hl,_,hr⟩
  ·exact hav (.inl h1)
  ·have h3:=lt_of_heap hb
   simp only [cx0] at h3
   rcases (hS.own o ob' b hl hr).1 with h2 | h2
   ·omega
   ·exact hav (.inr h2)
 ·obtain ⟨c2,T2,f2,q1,q2⟩:=hS.below.row b cells T fz (lt_of_heap hb) hb
  exact ⟨c2,T2,f2,q1,q2⟩
include hX hS in
theorem glob_out (ns:List Nat):GlobOk X.C X.glob w (avBut g hs w ns):=glob_av hX hS avBut_av
theorem kill_putP (ns:Nat→Bool) (o:Nat) (ho:ns o=false):∀(k:List Nat) (d:D α),closed d=true→kill ns (putP k (.arr o) d)=putP k (.arr o) d:=by
 have hset:∀(l:List (D α)) (i:Nat) (y:D α),closedL l=true→kill ns y=y→killL ns (setT l i y)=setT l i y:=by
  intro l
  induction l with
  | nil=>intro i y h _;simp [setT,killL]
  | cons c r ih =>
   intro i y h hy
   simp only [closedL,Bool.and_eq_true] at h
   cases i with
   | zero=>simp [setT,killL,hy,killL_closed ns r h.2]
   | succ i=>simp [setT,killL,kill_closed ns c h.1,ih i y h.2 hy]
 have hget:∀(l:List (D α)) (i:Nat) (c:D α),closedL l=true→l[i]?=some c→closed c=true:=by
  intro l
  induction l with
  | nil=>intro i c _ h;simp at h
  | cons c r ih =>
   intro i d h hd
   simp only [closedL,Bool.and_eq_true] at h
   cases i with
   | zero=>simp only [List.getElem?_cons_zero,Option.some.injEq] at hd;subst hd;exact h.1
   | succ i=>exact ih i d h.2 (by simpa using hd)
 intro k
 induction k with
 | nil=>intro d _;simp [putP,Eng.kill,ho]
 | cons i r ih =>
  intro d hd
  cases d
  case agg cs =>
   simp only [putP]
   split
   ·rename_i c hc
    simp only [Eng.kill]
    rw [hset cs i _ hd (ih c (hget cs i c hd hc))]
   ·exact kill_closed ns _ hd
  case tup cs =>
   simp only [putP]
   split
   ·rename_i c hc
    simp only [Eng.kill]
    rw [hset cs i _ hd (ih c (hget cs i c hd hc))]
   ·exact kill_closed ns _ hd
  all_goals exact kill_closed ns _ hd
theorem look_cons1 (n:Nat) (ob:Ob α) (hs:Obs α) (k:Nat):look ((n,ob)::hs) k=if k=n then some ob else look hs k:=by
 simp only [look]
 by_cases h:k=n
 ·subst h;simp
 ·rw [if_neg h]
  cases hb:Nat.beq n k with
  | true=>exact absurd (Nat.eq_of_beq_eq_true hb).symm h
  | false=>rfl
include hX hS in
theorem bind_new (n:Nat) (hn:look hs n=none) (hn5:Nat.blt n 50000=true) (p:α) (bn:Option Nat) (w':World) (hb:BelowD X.C.dr w.heap.size w w') (hbn:∀b,bn=some b→w.heap.size≤b∧b < w'.heap.size)
    (hob:ObRel X.C (cxOf { g with rho:=bind1 g.rho n bn } ((n,.arr false p)::hs) w') bn (.arr false p)) :
    Sim X { g with rho:=bind1 g.rho n bn } tm ((n,.arr false p)::hs) a w':=by
  have hlk:=look_cons1 n (.arr false p) hs
  have hne:∀k ob,look hs k=some ob→k≠n:=by rintro k ob h rfl;rw [hn] at h;simp at h
  have hrho:∀k,k≠n→bind1 g.rho n bn k=g.rho k:=by intro k h;simp [bind1,h]
  have hle:CxLe X.C (fun _=>false) (cxOf g hs w) (cxOf { g with rho:=bind1 g.rho n bn } ((n,.arr false p)::hs) w') :=
    { cell:=fun b ob _ h=>by show w'.heap[b]?=_;rw [hb.block b (lt_of_heap h)];exact h
      av := fun b ob hob' hav hav' => by
        rcases hav' with h0 | ⟨o,x,hl,hf,hr⟩
        · exact hav (.inl h0)
        · simp only [hlk] at hl hr
          by_cases ho:o=n
          · subst ho
            simp only [bind1,if_true] at hr
            have:=(hbn b hr).1
            have:=lt_of_heap hob'
            simp only [cxOf] at this
            omega
          · rw [if_neg ho] at hl
            rw [hrho o ho] at hr
            exact hav (.inr ⟨o,x,hl,hf,hr⟩)
      bx:=fun o b _ h=>by
        simp only [cxOf] at h ⊢
        cases hl:look hs o with
        | none=>rw [hl] at h;simp at h
        | some x =>
          have ho:=hne o x hl
          rw [hl] at h
          rw [hlk,if_neg ho,hl,hrho o ho]
          exact h
      ar:=fun o b q _ h=>by
        simp only [cxOf] at h ⊢
        cases hl:look hs o with
        | none=>rw [hl] at h;simp at h
        | some x =>
          have ho:=hne o x hl
          rw [hl] at h
          rw [hlk,if_neg ho,hl,hrho o ho]
          exact ⟨q,h,rfl,rfl⟩
      size:=fun b cells T fz h=>⟨cells,T,fz,by show w'.heap[b]?=_;rw [hb.block b (lt_of_heap h)];exact h,rfl⟩ }
  refine ⟨hS.size,fun t=>?_,hS.dfr,fun o ob ho=>?_,fun o o' ob ob' b ho ho' hr hr'=>?_,fun o ob b ho hr=>?_,hS.below.trans (toL (hb.mono hS.below.size)),hS.av0,hS.lav,fun c b hc=>⟨(hS.top c b hc).1,(hS.top c b hc).2.1,fun x hx=>?_⟩,hS.glob⟩
  · have:=RG.kill hX.pay hle (hS.tm t)
    rwa [kill_none] at this
  · rw [hlk] at ho
    by_cases h:o=n
    · subst h
      simp only [if_true,Option.some.injEq] at ho
      subst ho
      simpa [bind1] using hob
    · rw [if_neg h] at ho
      show ObRel X.C _ (bind1 g.rho n bn o) ob
      rw [hrho o h]
      have h0:=hS.obs o ob ho
      cases ob with
      | box fz cs =>
        obtain ⟨b',cells,T,h1,h2,h3,h4,h5⟩:=h0
        exact ⟨b',cells,T,h1,by show w'.heap[b']?=_;rw [hb.block b' (lt_of_heap h2)];exact h2,h3,h4,fun i v c hv hc=>RD.grow hX.pay hle (h5 i v c hv hc)⟩
      | arr fz q =>
        cases hr:g.rho o with
        | none=>rw [hr] at h0;exact h0
        | some b' =>
          rw [hr] at h0
          obtain ⟨cells,T,h1,h2,h3,h4,h5⟩:=h0
          exact ⟨cells,T,by show w'.heap[b']?=_;rw [hb.block b' (lt_of_heap h1)];exact h1,h2,h3,h4,fun i j v d hi hv hd=>RD.grow hX.pay hle (h5 i j v d hi hv hd)⟩
      | map fz q =>
        obtain ⟨b',es,clock,h1,h2,h3,h4,h5,h6⟩:=h0
        exact ⟨b',es,clock,h1,by show w'.heap[b']?=_;rw [hb.block b' (lt_of_heap h2)];exact h2,h3,h4,fun i e he=>RD.grow hX.pay hle (h5 i e he),fun i e he=>RD.grow hX.pay hle (h6 i e he)⟩
  · rw [hlk] at ho ho'
    have hr1:bind1 g.rho n bn o=some b:=hr
    have hr2:bind1 g.rho n bn o'=some b:=hr'
    by_cases h:o=n<;>by_cases h':o'=n
    · rw [h,h']
    · rw [if_neg h'] at ho'
      rw [hrho o' h'] at hr2
      subst h
      simp only [bind1,if_true] at hr1
      have h1:=(hS.own o' ob' b ho' hr2).2
      have h2:=(hbn b hr1).1
      omega
    · rw [if_neg h] at ho
      rw [hrho o h] at hr1
      subst h'
      simp only [bind1,if_true] at hr2
      have h1:=(hS.own o ob b ho hr1).2
      have h2:=(hbn b hr2).1
      omega
    · rw [if_neg h] at ho
      rw [if_neg h'] at ho'
      rw [hrho o h] at hr1
      rw [hrho o' h'] at hr2
      exact hS.inj o o' ob ob' b ho ho' hr1 hr2
  · rw [hlk] at ho
    have hr1:bind1 g.rho n bn o=some b:=hr
    by_cases h:o=n
    · subst h
      simp only [bind1,if_true] at hr1
      have h1:=hbn b hr1
      have h2:=hS.below.size
      exact ⟨.inl (Nat.le_trans h2 h1.1),h1.2⟩
    · rw [if_neg h] at ho
      rw [hrho o h] at hr1
      have h1:=hS.own o ob b ho hr1
      have:=hb.size
      exact ⟨h1.1,by omega⟩
  · rw [hlk] at hx
    by_cases h:c=n
    · subst h
      have:=(hS.top c b hc).1
      rw [hn5] at this;simp at this
    · rw [if_neg h] at hx
      obtain ⟨h1,h2⟩:=(hS.top c b hc).2.2 x hx
      exact ⟨(hrho c h).trans h1,h2⟩
theorem newN_spec {hs:Obs α} {n m:Nat} (h:newN hs n=some m):look hs m=none∧Nat.blt m 50000=true:=by
 unfold newN at h
 cases hb:Nat.blt n 40000 with
 | false=>rw [hb] at h;simp at h
 | true =>
 rw [hb] at h
 simp only [Bool.not_true,cond_false] at h
 have hle:=Nat.le_of_ble_eq_true hb
 split at h
 ·simp only [Option.some.injEq] at h;subst h;exact ⟨by assumption,Nat.ble_eq_true_of_le (by omega)⟩
 ·split at h
  ·simp only [Option.some.injEq] at h;subst h;exact ⟨by assumption,Nat.ble_eq_true_of_le (by omega)⟩
  ·simp at h
theorem look_freeze_none {hs:Obs α} {ns:List Nat} {m:Nat} (h:look hs m=none):look (freeze hs ns) m=none:=by
 rw [look_freeze,h];split<;>rfl
theorem bindD_spec {hs:Obs α} {dst:Option Nat} {d e:D α} {m:Nat} {p:α} (h:bindD hs dst d=some (m,p,e)):(look hs m=none∧Nat.blt m 50000=true)∧∃k e0 kk,d=.ow k e0∧atP k e0=some (.pl p kk)∧e=putP k (.arr m) e0:=by
 unfold bindD at h
 split at h
 ·split at h
  ·rename_i h1 h2
   simp only [Option.some.injEq,Prod.mk.injEq] at h
   obtain ⟨rfl,rfl,rfl⟩:=h
   exact ⟨newN_spec h2,_,_,_,rfl,h1,rfl⟩
  ·simp at h
 ·simp at h
include hX hS in
theorem own_sound (ns:List Nat) {dst:Option Nat} {d e:D α} {m:Nat} {p:α} (h:bindD hs dst d=some (m,p,e)) (hcl:closed d=true) {v:Value} {w':World}
    (hbel:BelowD X.C.dr w.heap.size w w') (hown:OwnPost X.C w.heap.size (avBut g hs w ns) v w' d) :
    ∃rho',Sim X { g with rho:=rho' } tm ((m,.arr false p)::freeze hs ns) a w'∧RD X.C (cxOf { g with rho:=rho' } ((m,.arr false p)::freeze hs ns) w') v e:=by
  obtain ⟨⟨hm,hm5⟩,k,e0,kk,rfl,hat,rfl⟩:=bindD_spec h
  obtain ⟨bn,hbn,hrd⟩:=hown p kk hat
  obtain ⟨h1,h2⟩:=hrd m
  obtain ⟨hS1,_⟩:=sim_freeze (hs:=hs) hX hS ns
  have hm1:=look_freeze_none (ns:=ns) hm
  have hfo:=frozen_of_out (C:=X.C) hS (ns:=ns) (w':=w')
  have hlk:=look_cons1 m (.arr false p) (freeze hs ns)
  have hle:CxLe X.C (fun x=>!(x==m)) (cxN w' (avBut g hs w ns) m bn p) (cxOf { g with rho:=bind1 g.rho m bn } ((m,.arr false p)::freeze hs ns) w') :=
    { cell:=fun _ _ _ h=>h
      av := fun b ob hob hav hav' => by
        rcases hav' with h0 | ⟨o,x,hl,hf,hr⟩
        · exact hfo.av b ob hob (fun h=>hav (.inl h)) (.inl h0)
        · simp only [hlk] at hl
          have hr1:bind1 g.rho m bn o=some b:=hr
          by_cases ho:o=m
          · subst ho
            simp only [bind1,if_true] at hr1
            exact hav (.inr hr1)
          · rw [if_neg ho] at hl
            simp only [bind1,if_neg ho] at hr1
            exact hfo.av b ob hob (fun h=>hav (.inl h)) (.inr ⟨o,x,hl,hf,hr1⟩)
      bx:=fun _ _ _ h=>by simp [cxN] at h
      ar:=fun o b q hno h=>by
        have ho:o=m:=by simpa using hno
        subst ho
        simp only [cxN,if_true,Option.some.injEq,Prod.mk.injEq] at h
        obtain ⟨rfl,rfl⟩:=h
        refine ⟨p,?_,rfl,rfl⟩
        simp only [cxOf,hlk,if_true,bind1]
      size:=fun _ cells T fz h=>⟨cells,T,fz,h,rfl⟩ }
  refine ⟨bind1 g.rho m bn,bind_new hX hS1 m hm1 hm5 p bn w' hbel hbn ?_,?_⟩
  · cases bn with
    | none=>exact h2
    | some b' =>
      obtain ⟨cells,T,q1,q2,q3,q4,q5⟩:=h2
      refine ⟨cells,T,q1,q2,q3,q4,fun i j v d hi hv hd=>?_⟩
      have:=RD.kill hX.pay hle (q5 i j v d hi hv hd)
      rwa [kill_closed _ d (hX.pay.clo p i d (List.mem_of_getElem? hd))] at this
  · have:=RD.kill hX.pay hle h1
    rwa [kill_putP _ m (by simp) k e0 (by simpa [closed] using hcl)] at this
include hX hS in
theorem callP_sound (hR:ROk X) (f:FuncId) (args:List (D α)) (vs:Array Value) (hsz:vs.size=args.length)
    (hr:∀(i:Nat) v c,vs[i]?=some v→args[i]?=some c→RD X.C (cxOf g hs w) v c) (dst:Option Nat) (r:Res α) (hm:mOf X f=false) (hc:callD X hs tm dst f args=r) (hok:r.ok=true) :
    CallOk X.P f vs w fun v w'=>OpOut X g tm hs a r v w':=by
  unfold callD at hc
  simp only [hm,cond_false] at hc
  split at hc
  · rename_i ds ns hl
    obtain ⟨hlt,hl⟩:Nat.blt f 1000000=true∧lendAll X.C hs args=some (ds,ns):=by
      cases hb:Nat.blt f 1000000 with
      | true=>rw [hb] at hl;exact ⟨rfl,hl⟩
      | false=>rw [hb] at hl;simp at hl
    split at hc
    · rename_i b d hRf
      obtain ⟨hlen,hget⟩:=lendAll_sound hX hS (avBut g hs w ns) avBut_av args ds ns hl avBut_ns
      have hb:(b&&closed d)=true:=by
        revert hok
        rw [←hc]
        cases bindD hs dst d with
        | none=>cases (isNil ns||flat d)<;>exact id
        | some x=>exact id
      simp only [Bool.and_eq_true] at hb
      have hs0:=(hR f ds b d hRf hb.1).1 hlt
      have h1:=hs0 w (avBut g hs w ns) vs (glob_out hX hS ns) (fun b hb'=>by
        rcases hb'.1 with h | ⟨o,ob,hl',_,hr'⟩
        · have:=hS.av0 b h;have:=hS.below.size;omega
        · exact (hS.own o ob b hl' hr').2) (by rw [hsz,hlen]) (fun i v c hv hc'=>by
          have hi:i < args.length:=by
            rw [←hlen];rcases Nat.lt_or_ge i ds.length with h | h
            · exact h
            · simp [List.getElem?_eq_none h] at hc'
          have hc0:args[i]?=some args[i]:=by simp [hi]
          exact hget i v _ c hc0 hc' (hr i v _ hv hc0))
      have key:∀v w',RD X.C (cx0 w' (avBut g hs w ns)) v d∧BelowD X.C.dr w.heap.size w w'∧OwnPost X.C w.heap.size (avBut g hs w ns) v w' d→OpOut X g tm hs a r v w':=by
        rintro v w' ⟨hv,hbel,hown⟩
        subst hc
        cases hbd:bindD hs dst d with
        | some x =>
          obtain ⟨m,p,e⟩:=x
          simp only
          obtain ⟨rho',h1,h2⟩:=own_sound (tm:=tm) (a:=a) hX hS ns hbd hb.2 hbel hown
          exact ⟨rho',h1,h2⟩
        | none =>
        simp only
        cases hn:isNil ns with
        | true =>
          obtain rfl:=isNil_eq hn
          simp only [Bool.true_or,cond_true]
          have hle:CxLe X.C (fun _=>true) (cx0 w' (avBut g hs w [])) (cxOf g hs w') :=
            { cell:=fun _ _ _ h=>h
              av:=fun b ob _ hav hav'=>hav ⟨hav',fun _ _ h=>by simp at h⟩
              bx:=fun _ _ h=>by simp at h
              ar:=fun _ _ _ h=>by simp at h
              size:=fun _ cells T fz h=>⟨cells,T,fz,h,rfl⟩ }
          exact OpOut.quiet hX hS hbel rfl (RD.closedTo hX.pay hle hb.2 hv)
        | false =>
          cases hf:flat d with
          | true =>
            simp only [Bool.or_true,cond_true]
            exact OpOut.quiet hX hS hbel rfl (RD_flat d v hf hv)
          | false =>
            simp only [Bool.or_false,cond_false]
            obtain ⟨h2,_⟩:=sim_freeze hX hS ns
            exact ⟨g.rho,h2.grow hX.pay hbel,RD.closedTo hX.pay (frozen_of_out hS) hb.2 hv⟩
      rcases h1 with ⟨h2,h3⟩ | ⟨v,w',h2,h3⟩
      · exact .inl ⟨h2,h3.mono fun e w' ⟨v,he,hv⟩=>⟨v,he,key v w' hv⟩⟩
      · exact .inr ⟨v,w',h2,key v w' h3⟩
    · subst hc;simp [Res.no] at hok
  · subst hc;simp [Res.no] at hok
end
end Go.Eng
