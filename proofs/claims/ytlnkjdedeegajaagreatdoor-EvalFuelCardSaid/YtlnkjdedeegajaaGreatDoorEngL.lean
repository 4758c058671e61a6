/-
  THE ENGINE, PART L: APPEND.
-/
import Derived.Test.YtlnkjdedeegajaaGreatDoorEngK
namespace Go.Eng
open Go.RowKit
variable {α:Type}
section
variable {X:Ctx α} (hX:XOk X) {g:Gh} {tm:List (D α)} {hs:Obs α} {a:Act} {w:World} (hS:Sim X g tm hs a w)
def RowAt (C:Pay α) (cx:Cx α) (b off:Nat) (p:α):Prop :=
  ∀(i j:Nat) d,i < C.len p→(C.elem p i)[j]?=some d→∃u,cx.w.cell? ⟨b,off+(i * C.esz p+j),none⟩=some u∧u.oneCell'=true∧RD C cx u d
def Src (C:Pay α) (cx:Cx α) (v:Value) (q:α):Prop :=
  ∃ad c,v=.slice ad (C.len q) c∧(0 < C.len q→∃b off,ad=some ⟨b,off,none⟩∧RowAt C cx b off q)
theorem row_list {C:Pay α} (hC:PayOk C) {cx:Cx α} {b off:Nat} {p:α} (h:RowAt C cx b off p):∃l:List Value,l.length=C.len p * C.esz p ∧
    (∀(k:Nat) u,l[k]?=some u→cx.w.cell? ⟨b,off+k,none⟩=some u)∧(∀u∈l,u.oneCell'=true) ∧
    ∀(i j:Nat) u d,i < C.len p→l[i * C.esz p+j]?=some u→(C.elem p i)[j]?=some d→RD C cx u d:=by
  have hz:=hC.pos p
  have hat:∀k,k < C.len p * C.esz p→∃u,cx.w.cell? ⟨b,off+k,none⟩=some u∧u.oneCell'=true∧∃d,(C.elem p (k / C.esz p))[k % C.esz p]?=some d∧RD C cx u d:=by
    intro k hk
    have hi:k / C.esz p < C.len p:=Nat.div_lt_of_lt_mul (by rw [Nat.mul_comm];exact hk)
    have hj:k % C.esz p < (C.elem p (k / C.esz p)).length:=by rw [hC.elen p _ hi];exact Nat.mod_lt _ hz
    obtain ⟨u,h1,h2,h3⟩:=h (k / C.esz p) (k % C.esz p) _ hi (List.getElem?_eq_getElem hj)
    rw [Nat.mul_comm,Nat.div_add_mod] at h1
    exact ⟨u,h1,h2,_,List.getElem?_eq_getElem hj,h3⟩
  refine ⟨(List.range (C.len p * C.esz p)).map fun k=>(cx.w.cell? ⟨b,off+k,none⟩).getD undef,by simp,fun k u hu=>?_,fun u hu=>?_,fun i j u d hi hu hd=>?_⟩
  · rw [List.getElem?_map] at hu
    obtain ⟨k',hk',rfl⟩:=Option.map_eq_some_iff.1 hu
    have hlt:k < C.len p * C.esz p:=by
      rcases Nat.lt_or_ge k (C.len p * C.esz p) with h | h
      · exact h
      · rw [List.getElem?_eq_none (by simpa using h)] at hk';simp at hk'
    rw [List.getElem?_range hlt] at hk'
    simp only [Option.some.injEq] at hk'
    subst hk'
    obtain ⟨u,h1,_⟩:=hat k hlt
    rw [h1];rfl
  · obtain ⟨k,hk,rfl⟩:=List.mem_map.1 hu
    obtain ⟨u,h1,h2,_⟩:=hat k (List.mem_range.1 hk)
    rw [h1];exact h2
  · rw [List.getElem?_map] at hu
    obtain ⟨k',hk',rfl⟩:=Option.map_eq_some_iff.1 hu
    have hj:j < C.esz p:=by
      rw [←hC.elen p i hi]
      rcases Nat.lt_or_ge j (C.elem p i).length with h | h
      · exact h
      · simp [List.getElem?_eq_none h] at hd
    have hlt:i * C.esz p+j < C.len p * C.esz p:=by
      have:(i+1) * C.esz p≤C.len p * C.esz p:=Nat.mul_le_mul_right _ hi
      rw [Nat.add_mul,Nat.one_mul] at this;omega
    rw [List.getElem?_range hlt] at hk'
    simp only [Option.some.injEq] at hk'
    subst hk'
    obtain ⟨u,h1,_,h3⟩:=h i j d hi hd
    rw [h1];exact h3
theorem info_of {P:Program} {e n:Nat} (h:szO P e=some n) (hz:zsz P e=true):∃i z,P.info? e=some i∧i.size=n∧i.zero=some z∧z.cells.size=n∧∀u∈z.cells,u.oneCell'=true:=by
  unfold szO at h
  obtain ⟨i,hi,rfl⟩:=Option.map_eq_some_iff.1 h
  unfold zsz at hz
  rw [hi] at hz
  simp only at hz
  cases hzz:i.zero with
  | none=>simp [hzz] at hz
  | some z =>
    rw [hzz] at hz
    simp only [Bool.and_eq_true,List.all_eq_true] at hz
    exact ⟨i,z,hi,rfl,hzz,Nat.eq_of_beq_eq_true hz.1,fun u hu=>hz.2 u (Array.mem_toList_iff.2 hu)⟩
theorem run_append_zero {P:Program} (w:World) (t ty e:TypeId) (n:Nat) (ht:P.underlying t=some (.slice e)) (hn:szO P e=some n) (ad ad':Option Addr) (l c c':Nat) (hc:l≤c) :
    (Builtin.append_ #[t,t] ty #[.slice ad l c,.slice ad' 0 c']).run P w=.ok (.slice ad l c) w:=by
  have hf:(Builtin.firstCells n 0 (.slice ad' 0 c')).run P w=.ok #[] w:=by
    cases ad'<;>simp [Builtin.firstCells,loadCells,loadCellsFrom]
  cases ad<;>simp [Builtin.append_,run_underlying ht,run_sizeOf' P w hn,Builtin.lenOf,hc,hf,storeCells]
inductive Base (X:Ctx α) (g:Gh) (hs:Obs α) (w:World) (o:Nat) (v:Value) (p:α) (m:Nat):Prop
  | none (ad:Option Addr) (hv:v=.slice ad 0 0) (hl:X.C.len p=0)
  | full (b off:Nat) (hv:v=.slice (some ⟨b,off,none⟩) (X.C.len p) (X.C.len p)) (hr:RowAt X.C (cxOf g hs w) b off p) (hm:0 < m)
  | own (b c:Nat) (cells:Array Value) (T:TypeId) (hl:look hs o=some (.arr false p)) (hrho:g.rho o=some b) (hv:v=.slice (some ⟨b,0,none⟩) (X.C.len p) c)
      (hc:X.C.len p≤c) (hh:w.heap[b]?=some (.cells cells T (0,0))) (hsz:c * X.C.esz p≤cells.size)
theorem drew_below {δ:Bool} (w:World):BelowD δ w.heap.size w w.drew:=(BelowD.refl _ _).drew
theorem ObRel.row {C:Pay α} (hC:PayOk C) {cx:Cx α} {b:Nat} {cells:Array Value} {T:TypeId} {p q r:α} (hcat:C.cat p q=some r) {os ns:List Value}
    (hos:os.length=C.len p * C.esz p) (hns:ns.length=C.len q * C.esz q) (hcl:∀(k:Nat) u,(os++ns)[k]?=some u→cells[k]?=some u)
    (h1:∀(k:Nat) u,cells[k]?=some u→u.oneCell'=true)
    (hop:∀(i j:Nat) u d,i < C.len p→os[i * C.esz p+j]?=some u→(C.elem p i)[j]?=some d→RD C cx u d)
    (hoq:∀(i j:Nat) u d,i < C.len q→ns[i * C.esz q+j]?=some u→(C.elem q i)[j]?=some d→RD C cx u d)
    (hh:cx.w.heap[b]?=some (.cells cells T (0,0))) (hbig:C.len r * C.bys r≤big) (fz:Bool):ObRel C cx (some b) (.arr fz r):=by
  obtain ⟨r1,r2,r3,r4,r5,r6⟩:=hC.cat p q r hcat
  have hlen:(os++ns).length=C.len r * C.esz r:=by rw [List.length_append,hos,hns,r1,r2,r4,Nat.add_mul]
  refine ⟨cells,T,hh,?_,hbig,h1,fun i j u d hi hu hd=>?_⟩
  · rw [←hlen]
    rcases Nat.lt_or_ge cells.size (os++ns).length with h | h
    · have:=hcl cells.size _ (List.getElem?_eq_getElem h)
      simp at this
    · exact h
  · have hj:j < C.esz r:=by
      rw [←hC.elen r i hi]
      rcases Nat.lt_or_ge j (C.elem r i).length with h | h
      · exact h
      · simp [List.getElem?_eq_none h] at hd
    rw [r2] at hj hu
    by_cases hip:i < C.len p
    · rw [r5 i hip] at hd
      have hlt:i * C.esz p+j < os.length:=by
        have:(i+1) * C.esz p≤C.len p * C.esz p:=Nat.mul_le_mul_right _ hip
        rw [Nat.add_mul,Nat.one_mul] at this;omega
      have:=hcl _ _ (by rw [List.getElem?_append_left hlt];exact List.getElem?_eq_getElem hlt)
      rw [this] at hu
      simp only [Option.some.injEq] at hu
      exact hop i j u d hip (by rw [←hu];exact List.getElem?_eq_getElem hlt) hd
    · obtain ⟨k,rfl⟩:∃k,i=C.len p+k:=⟨i - C.len p,by omega⟩
      have hk:k < C.len q:=by omega
      rw [r6 k hk] at hd
      have hlt:k * C.esz q+j < ns.length:=by
        have:(k+1) * C.esz q≤C.len q * C.esz q:=Nat.mul_le_mul_right _ hk
        rw [Nat.add_mul,Nat.one_mul] at this;omega
      have hidx:(C.len p+k) * C.esz p+j=os.length+(k * C.esz q+j):=by rw [Nat.add_mul,hos,r4];omega
      rw [hidx] at hu
      have:=hcl (os.length+(k * C.esz q+j)) _ (by rw [List.getElem?_append_right (by omega),Nat.add_sub_cancel_left];exact List.getElem?_eq_getElem hlt)
      rw [this] at hu
      simp only [Option.some.injEq] at hu
      exact hoq k j u d hk (by rw [←hu];exact List.getElem?_eq_getElem hlt) hd
theorem run_append_room' {P:Program} (w:World) (t ty e:TypeId) (i:TypeInfo) (ht:P.underlying t=some (.slice e)) (hi:P.info? e=some i)
    (g sLen sCap:Nat) (cur:Array Value) (T:TypeId) (hg:w.heap[g]?=some (.cells cur T (0,0)))
    (a:Addr) (m c:Nat) (news:List Value) (hl:news.length=m * i.size) (hnews:∀j u,news[j]?=some u→w.cell? (a.add j)=some u) (h1:∀u∈news,u.oneCell'=true)
    (hroom:sLen+m≤sCap) (hfit:sLen * i.size+news.length≤cur.size) :
    (Builtin.append_ #[t,t] ty #[.slice (some ⟨g,0,none⟩) sLen sCap,.slice (some a) m c]).run P w =
      .ok (.slice (some ⟨g,0,none⟩) (sLen+m) sCap) (w.setRow g (cur.toList.take (sLen * i.size)++news++cur.toList.drop (sLen * i.size+news.length)).toArray):=by
  have hf:=run_firstCells_some (P:=P) w i.size m a m c news hl hnews
  have hst:=run_storeCells_at P g (sLen * i.size) T news 0 cur w hg (by simpa using hfit) h1
  simp only [Nat.add_zero] at hst
  simp [Builtin.append_,run_underlying ht,sizeOf,typeInfo,hi,Builtin.lenOf,hroom,hf,Addr.add_lit,hst]
theorem ObRel.same {C:Pay α} {cx:Cx α} {b:Option Nat} {p r:α} {fz fz':Bool} (h:ObRel C cx b (.arr fz p)) (h1:C.len r=C.len p) (h2:C.esz r=C.esz p) (h3:C.bys r=C.bys p)
    (h4:∀i,i < C.len p→C.elem r i=C.elem p i):ObRel C cx b (.arr fz' r):=by
  cases b with
  | none=>exact h1.trans h
  | some b =>
    obtain ⟨cells,T,hh,hsz,hbg,hc1,hr⟩:=h
    refine ⟨cells,T,hh,by rw [h1,h2];exact hsz,by rw [h1,h3];exact hbg,hc1,fun i j v d hi hv hd=>?_⟩
    rw [h1] at hi
    rw [h2] at hv
    rw [h4 i hi] at hd
    exact hr i j v d hi hv hd
theorem zeroLen_of {n:Nat} (h:zeroLen n=true):n=0:=Nat.eq_of_beq_eq_true h
omit hS in
include hX in
theorem row_closed {ns:Nat→Bool} {cx':Cx α} (hle:CxLe X.C ns (cxOf g hs w) cx') {p:α} {l:List Value}
    (h:∀(i j:Nat) u d,i < X.C.len p→l[i * X.C.esz p+j]?=some u→(X.C.elem p i)[j]?=some d→RD X.C (cxOf g hs w) u d) :
    ∀(i j:Nat) u d,i < X.C.len p→l[i * X.C.esz p+j]?=some u→(X.C.elem p i)[j]?=some d→RD X.C cx' u d:=by
  intro i j u d hi hu hd
  have:=RD.kill hX.pay hle (h i j u d hi hu hd)
  rwa [kill_closed ns d (hX.pay.clo p i d (List.mem_of_getElem? hd))] at this
include hX hS in
theorem grown_sound (dst o:Nat) (hdst:Nat.blt dst 40000=true) (e:TypeId) (p q r:α) (hcat:X.C.cat p q=some r) (os ns:List Value) (hos:os.length=X.C.len p * X.C.esz p) (hns:ns.length=X.C.len q * X.C.esz q)
    (h1o:∀u∈os,u.oneCell'=true) (h1n:∀u∈ns,u.oneCell'=true)
    (hop:∀(i j:Nat) u d,i < X.C.len p→os[i * X.C.esz p+j]?=some u→(X.C.elem p i)[j]?=some d→RD X.C (cxOf g hs w) u d)
    (hoq:∀(i j:Nat) u d,i < X.C.len q→ns[i * X.C.esz q+j]?=some u→(X.C.elem q i)[j]?=some d→RD X.C (cxOf g hs w) u d)
    (hbig:X.C.len r * X.C.bys r≤big) (z:Array Value) (h1z:∀u∈z,u.oneCell'=true) (hz:z.size=X.C.esz p) (k:Nat) (d:D α) (hd:d=.arr dst) (res:Res α)
    (hres:res.ch=some (tm.map (kill (nsOf o dst)),rebind o dst (.arr false r) hs)) (hrd:res.d=d) :
    OpOut X g tm hs a res (.slice (some ⟨w.heap.size,0,none⟩) (X.C.len r) (X.C.len r+k)) (w.drew.alloc (.cells (os.toArray++ns.toArray++Builtin.zeroCells z k) e)):=by
  obtain ⟨r1,r2,r3,r4,r5,r6⟩:=hX.pay.cat p q r hcat
  have hlen:(os++ns).length=X.C.len r * X.C.esz r:=by rw [List.length_append,hos,hns,r1,r2,r4,Nat.add_mul]
  refine ⟨bind1 g.rho dst (some w.heap.size),?_,?_⟩
  · rw [hres]
    refine new_sound hX hS dst o hdst (.arr false r) _ w.drew (drew_below w) rfl fun cx hle hh=>?_
    refine ObRel.row hX.pay hcat hos hns (fun j u hj=>?_) (fun j u hj=>?_) (row_closed hX hle hop) (row_closed hX hle hoq) hh hbig false
    · have hlt:j < (os++ns).length:=by
        rcases Nat.lt_or_ge j (os++ns).length with h | h
        · exact h
        · simp [List.getElem?_eq_none h] at hj
      rw [Array.getElem?_append_left (by simpa using hlt)]
      simpa using hj
    · have hm:=Array.mem_of_getElem? hj
      simp only [Array.mem_append,List.mem_toArray] at hm
      rcases hm with (h | h) | h
      · exact h1o u h
      · exact h1n u h
      · unfold Builtin.zeroCells at h
        obtain ⟨i,_,rfl⟩:=Array.mem_map.1 h
        have hpz:0 < z.size:=by rw [hz];exact hX.pay.pos p
        have hi:i % z.size < z.size:=Nat.mod_lt _ hpz
        rw [getElem!_pos z _ hi]
        exact h1z _ (Array.getElem_mem hi)
  · rw [hres,hrd,hd]
    refine .arrO dst w.heap.size r _ _ (by simp [cxOf,look_rebind,bind1]) rfl (by omega) ⟨_,e,(0,0),heap_alloc_new' w.drew _,?_⟩
    simp only [Array.size_append,List.size_toArray,size_zeroCells,hz]
    rw [Nat.add_mul,←hlen,List.length_append,r2]
    omega
structure SrcR (P:Program) (C:Pay α) (cx:Cx α) (t tt ty e:TypeId) (v:Value) (q:α):Prop where
  zero:C.len q=0→∀(ad0:Option Addr) (l c0:Nat),l≤c0→(Builtin.append_ #[t,tt] ty #[.slice ad0 l c0,v]).run P cx.w=.ok (.slice ad0 l c0) cx.w
  pos:0 < C.len q→∃news:List Value,news.length=C.len q * C.esz q∧(∀u∈news,u.oneCell'=true) ∧
    (∀(i j:Nat) u d,i < C.len q→news[i * C.esz q+j]?=some u→(C.elem q i)[j]?=some d→RD C cx u d) ∧
    ∀(i:TypeInfo) (z:Value),P.info? e=some i→i.zero=some z→i.size=C.esz q→C.len q≤big →
      (C.len q * i.bytes≤281474976710656→(Builtin.append_ #[t,tt] ty #[.slice none 0 0,v]).run P cx.w =
        .ok (.slice (some ⟨cx.w.heap.size,0,none⟩) (C.len q) (grownCap cx.w (C.len q) 0 e)) (cx.w.drew.alloc (.cells (news.toArray++Builtin.zeroCells z.cells (grownCap cx.w (C.len q) 0 e - C.len q)) e))) ∧
      (∀(b:Addr) (sLen sCap:Nat) (olds:List Value),olds.length=sLen * i.size→(∀j u,olds[j]?=some u→cx.w.cell? (b.add j)=some u)→sCap < sLen+C.len q→sLen+C.len q≤big →
        Builtin.nextslicecap (sLen+C.len q) sCap * i.bytes≤281474976710656→(Builtin.append_ #[t,tt] ty #[.slice (some b) sLen sCap,v]).run P cx.w =
          .ok (.slice (some ⟨cx.w.heap.size,0,none⟩) (sLen+C.len q) (grownCap cx.w (sLen+C.len q) sCap e))
            (cx.w.drew.alloc (.cells (olds.toArray++news.toArray++Builtin.zeroCells z.cells (grownCap cx.w (sLen+C.len q) sCap e - (sLen+C.len q))) e))) ∧
      (∀(g sLen sCap:Nat) (cur:Array Value) (T:TypeId),cx.w.heap[g]?=some (.cells cur T (0,0))→sLen+C.len q≤sCap→sLen * i.size+news.length≤cur.size →
        (Builtin.append_ #[t,tt] ty #[.slice (some ⟨g,0,none⟩) sLen sCap,v]).run P cx.w =
          .ok (.slice (some ⟨g,0,none⟩) (sLen+C.len q) sCap) (cx.w.setRow g (cur.toList.take (sLen * i.size)++news++cur.toList.drop (sLen * i.size+news.length)).toArray))
theorem Src.runs {P:Program} {C:Pay α} (hC:PayOk C) {cx:Cx α} {t ty e:TypeId} {n:Nat} (ht:P.underlying t=some (.slice e)) (hn:szO P e=some n) {v:Value} {q:α} (h:Src C cx v q):SrcR P C cx t t ty e v q:=by
  obtain ⟨ad,c,rfl,hpos⟩:=h
  refine ⟨fun hm ad0 l c0 hlc=>?_,fun hq=>?_⟩
  · rw [hm];exact run_append_zero cx.w t ty e _ ht hn ad0 ad l c0 c hlc
  · obtain ⟨b',off',rfl,hrow⟩:=hpos hq
    obtain ⟨news,hnl,hnc,hn1',hnr⟩:=row_list hC hrow
    refine ⟨news,hnl,hn1',hnr,fun i z hi hz his hbq=>?_⟩
    unfold big at hbq
    have hnl':news.length=C.len q * i.size:=by rw [hnl,his]
    have hnc':∀j u,news[j]?=some u→cx.w.cell? ((⟨b',off',none⟩:Addr).add j)=some u:=fun j u h=>by rw [add_zero'];exact hnc j u h
    refine ⟨fun h48=>run_append_nil (P:=P) cx.w t ty e i z ht hi hz ⟨b',off',none⟩ (C.len q) c news hnl' hnc' hq (by omega) h48,fun b sLen sCap olds ho1 ho2 hg hbs hfit=>?_,fun g sLen sCap cur T hgg hroom hfit=>?_⟩
    · unfold big at hbs
      exact run_append_grow (P:=P) cx.w t ty e i z ht hi hz b sLen sCap olds ho1 ho2 ⟨b',off',none⟩ (C.len q) c news hnl' hnc' hg (by omega) hfit
    · exact run_append_room' (P:=P) cx.w t ty e i ht hi g sLen sCap cur T hgg ⟨b',off',none⟩ (C.len q) c news hnl' hnc' hn1' hroom hfit
theorem firstCells_str {P:Program} (w:World) (s:ByteArray) (m:Nat):(Builtin.firstCells m s.size (.string s)).run P w=.ok (s.data.map fun b=>Value.int .u8 b.toNat) w:=by
  have hx:(Array.map (fun b:UInt8=>Value.int IntKind.u8 (b.toNat:Int)) s.data).extract 0 s.size=Array.map (fun b:UInt8=>Value.int IntKind.u8 (b.toNat:Int)) s.data:=by
    have hs:s.size=(Array.map (fun b:UInt8=>Value.int IntKind.u8 (b.toNat:Int)) s.data).size:=by rw [Array.size_map];rfl
    rw [hs,Array.extract_size]
  simp [Builtin.firstCells,hx]
theorem Str.runs {P:Program} {C:Pay α} (hC:PayOk C) {cx:Cx α} {t tt ty e:TypeId} {n:Nat} (ht:P.underlying t=some (.slice e)) (htt:P.underlying tt=some .string) (hn:szO P e=some n) {s:ByteArray} {q:α}
    (hq:C.ofBytes t s.data.toList=some q):SrcR P C cx t tt ty e (.string s) q:=by
  obtain ⟨o1,_⟩:=hC.ofBytes t _ q hq
  obtain ⟨b1,b2,b3⟩:=hC.bytes q _ o1
  have hsz:s.size=C.len q:=by rw [b1];exact Array.length_toList.symm
  refine ⟨fun hm ad0 l c0 hlc=>?_,fun hpos=>?_⟩
  · have h0:s.size=0:=by omega
    have hf:=firstCells_str (P:=P) cx.w s n
    have hd:s.data=#[]:=by have:s.data.size=0:=h0;exact Array.eq_empty_of_size_eq_zero this
    rw [h0] at hf
    simp only [hd,Array.map_empty] at hf
    cases ad0<;>simp [Builtin.append_,run_underlying ht,run_underlying htt,run_sizeOf' P cx.w hn,Builtin.lenOf,h0,hlc,hf,storeCells]
  · refine ⟨s.data.toList.map (fun b=>Value.int .u8 b.toNat),by rw [List.length_map,b2,Nat.mul_one,b1],fun u hu=>?_,fun i j u d hi hu hd=>?_,fun i z hi hz his hbq=>?_⟩
    · obtain ⟨b,_,rfl⟩:=List.mem_map.1 hu
      rfl
    · rw [b3 i (by omega)] at hd
      have hj:j=0:=by
        rcases Nat.eq_zero_or_pos j with h | h
        · exact h
        · rw [List.getElem?_eq_none (by simp;omega)] at hd;simp at hd
      subst hj
      simp only [List.getElem?_cons_zero,Option.some.injEq] at hd
      subst hd
      rw [b2,Nat.mul_one,Nat.add_zero,List.getElem?_map,List.getElem?_eq_getElem (by omega)] at hu
      simp only [Option.map_some,Option.some.injEq] at hu
      subst hu
      refine .int _ _ ?_
      have:=UInt8.toNat_lt (s.data.toList[i]'(by omega))
      simp only [inR,Bool.and_eq_true]
      refine ⟨decide_eq_true ?_,decide_eq_true ?_⟩
      · show (0:Int)≤_;omega
      · show _≤(255:Int);omega
    · unfold big at hbq
      have his1:i.size=1:=by rw [his,b2]
      have hf:=fun m=>firstCells_str (P:=P) cx.w s m
      have hfd:=fun m=>firstCells_str (P:=P) cx.w.drew s m
      have harr:(s.data.toList.map fun b=>Value.int .u8 (b.toNat:Int)).toArray=s.data.map fun b=>Value.int .u8 (b.toNat:Int):=by
        apply Array.ext'
        simp
      refine ⟨fun h48=>?_,fun b sLen sCap olds ho1 ho2 hg hbs hfit=>?_,fun g sLen sCap cur T hgg hroom hfit=>?_⟩
      · rw [harr,←hsz]
        exact run_append_nil_string (P:=P) cx.w t tt ty e i z ht htt hi hz s (by omega) (by omega) (by rw [hsz];exact h48)
      · unfold big at hbs
        rw [←hsz] at *
        have hn':¬ (sLen+s.size≤sCap):=by omega
        have h63':¬ (9223372036854775807 < ((sLen:Int)+(s.size:Int))):=by omega
        have h48':¬ (281474976710656 < Builtin.nextslicecap (sLen+s.size) sCap * i.bytes):=by omega
        have hfo:=run_firstCells_some (P:=P) cx.w.drew i.size sLen b sLen sCap olds ho1 (by simpa using ho2)
        simp [Builtin.append_,run_underlying ht,run_underlying htt,sizeOf,typeInfo,zeroValue,hi,hz,Builtin.lenOf,hn',h63',h48',Question.forced,hfd,hfo,newRow,grownCap]
        congr 2
        apply Array.ext'
        simp [List.append_assoc]
      · rw [←hsz] at *
        have hst:=run_storeCells_at P g (sLen * i.size) T (s.data.toList.map (fun b=>Value.int .u8 b.toNat)) 0 cur cx.w hgg (by simpa using hfit) (fun u hu=>by obtain ⟨b,_,rfl⟩:=List.mem_map.1 hu;rfl)
        simp only [Nat.add_zero] at hst
        rw [←harr] at hf
        simp [Builtin.append_,run_underlying ht,run_underlying htt,sizeOf,typeInfo,hi,Builtin.lenOf,hroom,hf,Addr.add_lit,hst]
include hX hS in
theorem appendTo_sound (dst o n by_:Nat) (t tt ty e:TypeId) (z:Bool) (p q:α) (vx vy:Value) (hbase:Base X g hs w o vx p (X.C.len q)) (hsrc:SrcR X.P X.C (cxOf g hs w) t tt ty e vy q)
    (ht:X.P.underlying t=some (.slice e)) (hn:szO X.P e=some n) (hby:bysO X.P e=some by_) (hzz:z=true→zsz X.P e=true)
    (r:Res α) (hr:appendTo X hs tm dst o n by_ z p q=r) (hok:r.ok=true) :
    ∃v w',(Builtin.append_ #[t,tt] ty #[vx,vy]).run X.P w=.ok v w'∧OpOut X g tm hs a r v w':=by
  unfold appendTo at hr
  split at hr
  · rename_i rr hcat
    have hr0:=hr
    subst hr
    simp only [Bool.and_eq_true] at hok
    obtain ⟨hdst,⟨⟨⟨hz,hn1⟩,hn2⟩,hb1⟩,hbg⟩:=hok
    have hn1:=Nat.eq_of_beq_eq_true hn1
    have hn2:=Nat.eq_of_beq_eq_true hn2
    have hb1:=Nat.eq_of_beq_eq_true hb1
    have hbg:=Nat.le_of_ble_eq_true hbg
    subst hn1
    obtain ⟨i,zv,hi,his,hizv,hzs,hz1'⟩:=info_of hn (hzz hz)
    have hib:i.bytes=by_:=by unfold bysO at hby;rw [hi] at hby;simpa using hby
    obtain ⟨r1,r2,r3,r4,r5,r6⟩:=hX.pay.cat p q rr hcat
    have hbig':X.C.len rr * X.C.bys rr≤big:=by rw [r1,r3,←hb1];exact hbg
    have hbytes:(X.C.len p+X.C.len q) * i.bytes≤140737488355328:=by rw [hib];exact hbg
    have hmax:X.C.len p+X.C.len q≤big:=by
      refine bys_pos_len (hX.pay.bpos p) ?_
      rw [←hb1];exact hbg
    have hmaxb:=hmax
    unfold big at hmax
    by_cases hm:X.C.len q=0
    · 
      have hrun:∀ad0 l c0,l≤c0→(Builtin.append_ #[t,tt] ty #[.slice ad0 l c0,vy]).run X.P w=.ok (.slice ad0 l c0) w:=hsrc.zero hm
      cases hbase with
      | none ad0 hv hl =>
        subst hv
        refine ⟨_,_,hrun _ _ _ (Nat.le_refl _),bind1 g.rho dst none,?_,?_⟩
        · exact rebind_sound hX hS dst o hdst (.arr false rr) none w (toL (BelowD.refl _ _)) (fun _ _ h _=>h) (fun _ cells T fz h=>⟨cells,T,fz,h,rfl⟩) (fun b h=>by simp at h) (fun _=>by show X.C.len rr=0;omega)
        · exact .arrN dst rr _ (by simp [cxOf,look_rebind,bind1]) (by omega)
      | full b off hv hrw hmm=>omega
      | own b c0 cells T hl hrho hv hc hh hsz =>
        subst hv
        refine ⟨_,_,hrun _ _ _ hc,bind1 g.rho dst (some b),?_,?_⟩
        · have how:=hS.own o _ b hl hrho
          refine rebind_sound hX hS dst o hdst (.arr false rr) (some b) w (toL (BelowD.refl _ _)) (fun _ _ h _=>h) (fun _ cells T fz h=>⟨cells,T,fz,h,rfl⟩) (fun b' hb'=>?_) (fun hle=>?_)
          · simp only [Option.some.injEq] at hb'
            subst hb'
            exact ⟨how.1,how.2,fun _=>⟨_,hl,rfl,hrho⟩⟩
          · have hob:=hS.obs o _ hl
            rw [hrho] at hob
            have:=ObRel.grow hX.pay hle (b:=some b) (fun b' ob' _ h=>h) hob
            exact ObRel.same (fz:=false) this (by omega) r2 r3 r5
        · refine .arrO dst b rr _ _ (by simp [cxOf,look_rebind,bind1]) (by omega) hc ⟨cells,T,(0,0),hh,by rw [r2];exact hsz⟩
    · obtain ⟨news,hnl,hn1',hnr,hR⟩:=hsrc.pos (by omega)
      obtain ⟨hR0,hRg,hRr⟩:=hR i zv hi hizv (by rw [his,←hn2]) (by omega)
      have e0:(cxOf g hs w).w=w:=rfl
      rw [e0] at hR0 hRg hRr
      have hnl':news.length=X.C.len q * i.size:=by rw [hnl,his,←hn2]
      have hgrow:∀(os:List Value) (hos:os.length=X.C.len p * X.C.esz p) (h1o:∀u∈os,u.oneCell'=true)
          (hop:∀(i j:Nat) u d,i < X.C.len p→os[i * X.C.esz p+j]?=some u→(X.C.elem p i)[j]?=some d→RD X.C (cxOf g hs w) u d) (k:Nat),
          OpOut X g tm hs a (⟨Nat.blt dst 40000&&(z&&Nat.beq (X.C.esz p) (X.C.esz p)&&Nat.beq (X.C.esz p) (X.C.esz q)&&Nat.beq by_ (X.C.bys p)&&Nat.ble ((X.C.len p+X.C.len q) * by_) big),.arr dst,
            some (tm.map (kill (nsOf o dst)),rebind o dst (.arr false rr) hs)⟩:Res α) (.slice (some ⟨w.heap.size,0,none⟩) (X.C.len p+X.C.len q) (X.C.len p+X.C.len q+k))
            (w.drew.alloc (.cells (os.toArray++news.toArray++Builtin.zeroCells zv.cells k) e)):=by
        intro os hos h1o hop k
        rw [←r1]
        exact grown_sound hX hS dst o hdst e p q rr hcat os news hos hnl h1o hn1' hop hnr hbig' zv.cells hz1' hzs k _ rfl _ rfl rfl
      have hcap:∀c0,c0 < X.C.len p+X.C.len q→∃k,grownCap w (X.C.len p+X.C.len q) c0 e=X.C.len p+X.C.len q+k:=fun c0 _ =>
        ⟨grownCap w (X.C.len p+X.C.len q) c0 e - (X.C.len p+X.C.len q),by have:=grownCap_ge w (X.C.len p+X.C.len q) c0 e;omega⟩
      cases hbase with
      | none ad0 hv hl =>
        subst hv
        cases ad0 with
        | none =>
          have hrun:=hR0 (by rw [hl,Nat.zero_add] at hbytes;omega)
          obtain ⟨k,hk⟩:=hcap 0 (by omega)
          have hg:=hgrow [] (by simp [hl]) (by simp) (fun i j u d hi=>by omega) k
          rw [hl,Nat.zero_add] at hk hg
          refine ⟨_,_,hrun,?_⟩
          rw [hk]
          have:X.C.len q+k - X.C.len q=k:=by omega
          rw [this]
          simpa [hl] using hg
        | some ad1 =>
          have hrun:=hRg ad1 0 0 [] (by simp) (by simp) (by omega) (by omega) (growslice_fits (by omega) (by rw [Nat.zero_add];rw [hl,Nat.zero_add] at hbytes;exact hbytes))
          obtain ⟨k,hk⟩:=hcap 0 (by omega)
          have hg:=hgrow [] (by simp [hl]) (by simp) (fun i j u d hi=>by omega) k
          rw [hl] at hk hg
          refine ⟨_,_,hrun,?_⟩
          rw [hk]
          have:0+X.C.len q+k - (0+X.C.len q)=k:=by omega
          rw [this]
          simpa [hl] using hg
      | full b off hv hrw hmm =>
        subst hv
        obtain ⟨olds,hol,hoc,ho1,hor⟩:=row_list hX.pay hrw
        have hrun:=hRg ⟨b,off,none⟩ (X.C.len p) (X.C.len p) olds (by rw [hol,his]) (fun j u h=>by rw [add_zero'];exact hoc j u h) (by omega) hmaxb (growslice_fits (by omega) hbytes)
        obtain ⟨k,hk⟩:=hcap (X.C.len p) (by omega)
        refine ⟨_,_,hrun,?_⟩
        rw [hk]
        have:X.C.len p+X.C.len q+k - (X.C.len p+X.C.len q)=k:=by omega
        rw [this]
        exact hgrow olds hol ho1 hor k
      | own b c0 cells T hl hrho hv hc hh hsz =>
        subst hv
        have how:=hS.own o _ b hl hrho
        have hob:=hS.obs o _ hl
        rw [hrho] at hob
        have hob':=hob
        obtain ⟨cells',T',hh',hsz',hbg',hc1,hcr⟩:=hob
        have hh0:w.heap[b]?=some (.cells cells' T' (0,0)):=hh'
        rw [hh] at hh0
        simp only [Option.some.injEq,Obj.cells.injEq,and_true] at hh0
        obtain ⟨rfl,rfl⟩:=hh0
        have hrowp:RowAt X.C (cxOf g hs w) b 0 p:=by
          intro i' j d hi' hd
          have hj:j < X.C.esz p:=by
            rw [←hX.pay.elen p i' hi']
            rcases Nat.lt_or_ge j (X.C.elem p i').length with h | h
            · exact h
            · simp [List.getElem?_eq_none h] at hd
          have hlt:i' * X.C.esz p+j < cells.size:=by
            have:(i'+1) * X.C.esz p≤X.C.len p * X.C.esz p:=Nat.mul_le_mul_right _ hi'
            rw [Nat.add_mul,Nat.one_mul] at this;omega
          have hv:cells[i' * X.C.esz p+j]?=some cells[i' * X.C.esz p+j]:=by simp [hlt]
          refine ⟨_,?_,hc1 _ _ hv,hcr i' j _ d hi' hv hd⟩
          show w.cell? _=_
          rw [Nat.zero_add,cell_at hh];exact hv
        obtain ⟨olds,hol,hoc,ho1,hor⟩:=row_list hX.pay hrowp
        by_cases hroom:X.C.len p+X.C.len q≤c0
        · have hfit:X.C.len p * i.size+news.length≤cells.size:=by
            rw [hnl',his,←Nat.add_mul];exact Nat.le_trans (Nat.mul_le_mul_right _ hroom) hsz
          have hrun:=hRr b (X.C.len p) c0 cells T hh hroom hfit
          have hnew:((cells.toList.take (X.C.len p * i.size)++news++cells.toList.drop (X.C.len p * i.size+news.length)).toArray).size=cells.size:=by simp;omega
          refine ⟨_,_,hrun,bind1 g.rho dst (some b),?_,?_⟩
          · refine rebind_sound hX hS dst o hdst (.arr false rr) (some b) _ (setRow_belowL _ how.1 (setRow_size_of hh hnew)) (fun k ob hk hne=>?_) (setRow_size_of hh hnew) (fun b0 hb0=>?_) (fun hle=>?_)
            · rw [setRow_other w b k _ (fun e=>hne (by rw [e]))];exact hk
            · simp only [Option.some.injEq] at hb0
              subst hb0
              exact ⟨how.1,by simp;exact how.2,fun _=>⟨_,hl,rfl,hrho⟩⟩
            · have htake:cells.toList.take (X.C.len p * i.size)=olds:=by
                apply List.ext_getElem?
                intro k
                rw [List.getElem?_take]
                by_cases hk:k < X.C.len p * i.size
                · rw [if_pos hk]
                  have hk':k < olds.length:=by rw [hol,←his];exact hk
                  have:=hoc k _ (List.getElem?_eq_getElem hk')
                  rw [Nat.zero_add] at this
                  have h2:w.cell? ⟨b,k,none⟩=cells[k]?:=cell_at hh
                  rw [List.getElem?_eq_getElem hk',←this]
                  show cells.toList[k]?=w.cell? _
                  rw [h2];simp
                · rw [if_neg hk,List.getElem?_eq_none (by rw [hol,←his];omega)]
              refine ObRel.row hX.pay hcat hol hnl (fun k u hu=>?_) (fun k u hu=>?_) (row_closed hX hle hor) (row_closed hX hle hnr) (setRow_heap w b cells _ T (0,0) hh) hbig' false
              · rw [htake,List.getElem?_toArray,List.getElem?_append_left]
                · exact hu
                · rcases Nat.lt_or_ge k (olds++news).length with h | h
                  · exact h
                  · simp [List.getElem?_eq_none h] at hu
              · simp only [List.getElem?_toArray] at hu
                have hmem:=List.mem_of_getElem? hu
                simp only [List.mem_append] at hmem
                rcases hmem with (h | h) | h
                · exact ho1 u (by rw [←htake];exact h)
                · exact hn1' u h
                · have:=List.mem_of_mem_drop h
                  obtain ⟨k',hk'⟩:=List.mem_iff_getElem?.1 this
                  exact hc1 k' u (by simpa using hk')
          · rw [←r1]
            exact .arrO dst b rr _ _ (by simp [cxOf,look_rebind,bind1]) rfl (by omega) ⟨_,T,(0,0),setRow_heap w b cells _ T (0,0) hh,by rw [hnew,r2];exact hsz⟩
        · have hrun:=hRg ⟨b,0,none⟩ (X.C.len p) c0 olds (by rw [hol,his]) (fun j u h=>by rw [add_zero'];exact hoc j u h) (by omega) hmaxb (growslice_fits (by omega) hbytes)
          obtain ⟨k,hk⟩:=hcap c0 (by omega)
          refine ⟨_,_,hrun,?_⟩
          rw [hk]
          have:X.C.len p+X.C.len q+k - (X.C.len p+X.C.len q)=k:=by omega
          rw [this]
          exact hgrow olds hol ho1 hor k
  · subst hr;simp [Res.no] at hok
end
end Go.Eng
