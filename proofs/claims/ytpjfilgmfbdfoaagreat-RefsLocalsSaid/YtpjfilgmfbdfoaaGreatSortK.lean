/-
  refs.compare IS WHAT THE LIBRARY MAY SORT BY: in whatever world it hands back the order's number, and all that it leaves are new blocks and draws; the order is total.
-/
import Derived.Sort.MapsRangeIn
import Derived.Sort.KeysCollected
import Derived.RangeFuncGives
import Derived.Test.YtpjfilgmfbdfoaaGreatEngMp
import Derived.Shelf.AbstractIn
import Derived.RangeFuncSeq
import Derived.WalkKit
import Derived.OwnWalkIn
import Derived.TacticsInMore
import Derived.RegionIn
import Derived.LoopNIn
import Derived.LoopIn
import Derived.Test.YtpjfilgmfbdfoaaGreatProg
import Derived.Shelf.SlIter.Collect
import Derived.Test.YtpjfilgmfbdfoaaGreatRLaw
import Derived.Shelf.SlSortCmp.NoneTotal
namespace Go.Eng
open Go.Maps
open Go.WideElems (Fit rd rg rd_key rd_val rg_of rd_mk)
section
variable {H:Type} {P:Program} {k:TypeId} {D0:DataW H} {left:Lit→Bool} {ss:List Value} {R:Value→Option (DataW H×List MemPlace)} {w:World} {b n:Nat}
def Coll (P:Program) (k:TypeId) (D0:DataW H) (left:Lit→Bool) (ss:List Value):Prop :=
  ss.Nodup∧∀v,v∈ss↔∃kl,keyOf P k v=some kl∧has D0 kl=true∧left kl=false
theorem Coll.start (P:Program) (k:TypeId) (D0:DataW H):Coll P k D0 (has D0) [] :=
  ⟨List.nodup_nil,fun v=>⟨fun h=>by simp at h,fun ⟨kl,_,h1,h2⟩=>by rw [h1] at h2;cases h2⟩⟩
theorem sameKey_self:∀{a:Lit},WideAt.IsKeyLit a→a.sameKey a=true
  | a,h=>by cases a<;>simp_all [Lit.sameKey,WideAt.IsKeyLit]
theorem Coll.step (K:Keyed P k) (h:Coll P k D0 left ss) {x:Value} {kl:Lit} (hk:keyOf P k x=some kl) (hlk:left kl=true) {y:DataW H} (hat:∀zd,D0.atKey kl zd=y) :
    Coll P k D0 (fun z=>left z&&!z.sameKey kl) (ss++[x]):=by
  have hhas:has D0 kl=true:=has_true_of_atKey hat
  have hnew:x ∉ ss:=fun hx=>by
    obtain ⟨kl',h1,_,h3⟩:=(h.2 x).1 hx
    rw [hk] at h1
    cases h1
    rw [hlk] at h3
    cases h3
  refine ⟨List.nodup_append.2 ⟨h.1,by simp,fun a ha c hc=>by simp at hc;subst hc;exact fun e=>hnew (e ▸ ha)⟩,fun v=>?_⟩
  simp only [List.mem_append,List.mem_singleton]
  constructor
  · rintro (hv | rfl)
    · obtain ⟨kl',h1,h2,h3⟩:=(h.2 v).1 hv
      exact ⟨kl',h1,h2,by simp [h3]⟩
    · exact ⟨kl,hk,hhas,by simp [sameKey_self (K.key hk)]⟩
  · rintro ⟨kl',h1,h2,h3⟩
    by_cases he:kl'=kl
    · subst he
      exact .inr (K.inj h1 hk)
    · refine .inl ((h.2 v).2 ⟨kl',h1,h2,?_⟩)
      simpa [sameKey_ne he] using h3
theorem has_iff {es:Array MapEntry} {clock:Nat} (K:Keyed P k) (F:Fit P k R es clock) (kl:Lit) :
    has (.map ((es.toList.map (rg P k R)).foldr DataW.insert [])) kl=true↔∃e∈es.toList,keyOf P k e.key=some kl:=by
  rw [has_eq,List.any_eq_true]
  constructor
  · rintro ⟨p,hp,hs⟩
    obtain ⟨e,he,rfl⟩:=List.mem_map.1 (mem_sorted.1 hp)
    obtain ⟨y,hy⟩:=F.reads e he
    rw [rg_of hy] at hs
    refine ⟨e,he,?_⟩
    rw [rd_key hy]
    by_cases hne:y.1=kl
    · rw [hne]
    · rw [sameKey_ne hne] at hs;cases hs
  · rintro ⟨e,he,hk⟩
    refine ⟨rg P k R e,mem_sorted.2 (List.mem_map.2 ⟨e,he,rfl⟩),?_⟩
    obtain ⟨y,hy⟩:=F.reads e he
    have:=rd_key hy
    rw [hk] at this
    cases this
    rw [rg_of hy]
    exact sameKey_self (K.key (rd_key hy))
theorem Coll.perm (K:Keyed P k) {es:Array MapEntry} {clock:Nat} (F:Fit P k R es clock) (h:Coll P k (.map ((es.toList.map (rg P k R)).foldr DataW.insert [])) left ss) (hl:∀kl,left kl=false) :
    ss.Perm (es.toList.map (·.key)):=by
  refine (List.perm_ext_iff_of_nodup h.1 F.stamped.2.2).2 fun v=>?_
  rw [h.2 v]
  simp only [has_iff K F,hl,and_true,List.mem_map]
  constructor
  · rintro ⟨kl,h1,e,he,h2⟩
    exact ⟨e,he,K.inj h2 h1⟩
  · rintro ⟨e,he,rfl⟩
    obtain ⟨y,hy⟩:=F.reads e he
    exact ⟨y.1,rd_key hy,e,he,rd_key hy⟩
theorem fit_of {α:Type} {C:Pay α} (hC:PayOk C) {cx:Cx α} {s:Bool×List KC} (hk:keyOkD P k s=true) {p:α} {es:Array MapEntry} {clock:Nat} (hz:Szd es clock (C.len p)) (hlen:C.len p≤maxLen)
    (hes:∀(i:Nat) e,es[i]?=some e→RD C cx e.key (C.mkey p i)) (hsh:∀i,i < C.len p→shp (C.mkey p i)=some s) :
    Fit P k (fun _=>some ((DataW.lit (.bool true):DataW Unit),[])) es clock:=by
  refine ⟨by rw [hz.size];exact hlen,hz.st,fun e he=>?_⟩
  obtain ⟨i,hi⟩:=List.mem_iff_getElem?.1 he
  have hi:es[i]?=some e:=by simpa using hi
  have hlt:i < C.len p:=by
    rw [←hz.size]
    rcases Nat.lt_or_ge i es.size with h | h
    · exact h
    · simp [Array.getElem?_eq_none h] at hi
  obtain ⟨l,hl⟩:=keyOf_ok hk (hes i e hi) (hsh i hlt)
  exact ⟨_,rd_mk (born:=e.born) hl rfl⟩
end
end Go.Eng
namespace Go.Proofs.YtpjfilgmfbdfoaaGreat
open Go.RowKit Go.Maps Go.Sort Go.Shelf Go.Eng Go.Proofs
open Go.WideElems (Fit rd rg rd_key rd_val rg_of rd_mk)
structure K2 where
  c0:Value
  c1:Value
  h0:c0.oneCell'=true
  h1:c1.oneCell'=true
def K2.v (x:K2):Value:=.agg #[x.c0,x.c1]
abbrev kT:Nat:=54
abbrev mT:Nat:=69
abbrev eT:Nat:=71
theorem grownBy_alloc0 (W:World) (o:Obj):W.grownBy (W.alloc o) none :=
  ⟨rfl,rfl,rfl,by simp,fun k hk _=>Below.heap_alloc W o k hk⟩
set_option maxRecDepth 100000 in
set_option maxHeartbeats 1000000 in
theorem keys1 (F:Fence) (n:Nat) (h10:F.fn 48) (hro:F.round=none) (hn:1≤n) (l Bm Bo b nn:Nat) (D0:DataW Unit) {R:Value→Option (DataW Unit×List MemPlace)} (J:List Value→World→Prop)
    (K:Keyed Tryz.prog kT) (hinv:∀key kl,keyOf Tryz.prog kT key=some kl→∃x:K2,key=x.v)
    (hY:∀pre (x:K2) W,J pre W→pre.length < Maps.size D0→YieldAt F (n - 1) Tryz.prog l #[x.v] W fun e W'=>e=.returned (.bool true)∧J (pre++[x.v]) W'∧KeepsWalks W W')
    (W:World) (hJ:AbidesFrom W.heap.size J) (hm:W.cell? ⟨Bm,Bo,none⟩=some (.map (some b))) (hown:W.ownsMap Tryz.prog kT R b nn D0) (h0:J [] W) :
    CallsIn F n Tryz.prog 48 #[.func (.yield l) #[] #[],.pointer (some ⟨Bm,Bo,none⟩)] W fun e W'=>(∃v,e=.returned v)∧∃ss:List Value,(∃left,Coll Tryz.prog kT D0 left ss∧∀kl,left kl=false)∧J ss W':=by
  have mixed:Tryz.prog.follows .mixedOrders=true:=by kernel_rfl
  refine callsIn_of_wp Tryz.func48 rfl h10 ?_ hro
  simp only [Tryz.ntmps48,List.size_toArray,List.length_cons,List.length_nil,Nat.reduceAdd,Nat.reduceSub,Array.replicate_succ,Array.replicate_zero,List.push_toArray,List.append_toArray,List.nil_append,List.cons_append]
  gi_wp2_with (first
    | (gi_at_range;refine wpListIn_range_own _ rfl _ mT rfl kT eT K Tryz.underlying69 _ b nn _ rfl hown ?_;intro w0 hrg0 hg0 hs0)
    | gi_in)
  go_frame
  gi_loopw [3] (fun _ wr=>∃(left:Lit→Bool) (cnt:Nat) (ss:List Value),wr.ranges Tryz.prog kT R b W.heap.size nn D0 left cnt∧ss.length+cnt≤Maps.size D0∧Coll Tryz.prog kT D0 left ss∧J ss wr)
    (fun _ wr=>wr.rangeLeft b W.heap.size)
  case atStart =>
    exact ⟨_,_,[],hrg0,by simp,Coll.start _ _ D0,hJ [] W w0 none h0 hg0 (fun r e=>by cases e)⟩
  case round =>
    obtain ⟨left,cnt,ss,hrg,hcs,hC,hJs⟩:=hrel
    gi_wp2_with (first
      | (gi_at_next;refine wpListIn_next_ranges _ rfl _ rfl kT K R K2.v id hinv (fun v _ _=>⟨v,rfl⟩) b W.heap.size nn _ _ _ rfl hrg ?_ ?_)
      | gi_in)
    · 
      intro hc0 hl0
      gi_wp2
      go_end0
      exact ⟨⟨_,rfl⟩,ss,⟨left,hC,hl0⟩,hJs⟩
    · 
      intro x c kl yd yp w2 cnt2 hkey hlk hv hat hrg2 hlt hg2 hs2 hen
      have hJ2:J ss w2:=hJ ss wr w2 (some W.heap.size) hJs hg2 (fun r e=>by cases e;exact ⟨Nat.le_refl _,hrg.iter_walk⟩)
      obtain ⟨a0,a1,b0,b1⟩:=x
      clear hs2
      simp only [K2.v,id] at hen
      have s0:∀(w:World) (a:Addr) (m:Mode),(store a a0 m).run Tryz.prog w=stored Tryz.prog w a a0 m:=fun w a m=>run_store Tryz.prog w a a0 m b0
      have s1:∀(w:World) (a:Addr) (m:Mode),(store a a1 m).run Tryz.prog w=stored Tryz.prog w a a1 m:=fun w a m=>run_store Tryz.prog w a a1 m b1
      have hga:w2.grownBy (w2.alloc (Obj.cells #[a0,a1] kT)) none:=grownBy_alloc0 _ _
      have hJ3:J ss (w2.alloc (Obj.cells #[a0,a1] kT)):=hJ ss w2 _ none hJ2 hga (fun r e=>by cases e)
      obtain ⟨fn,tmps,assign,body,hy,hR⟩:=hY ss ⟨a0,a1,b0,b1⟩ _ hJ3 (by omega)
      simp only [K2.v] at hy
      gi_wp2
      refine hR.mono ?_
      rintro e W3 ⟨rfl,hJ4,hk3⟩
      gi_wp2
      have hrg3:=(hrg2.of_walks (KeepsWalks.alloc _ _)).of_walks hk3
      go_roundw
      case rel=>exact ⟨_,cnt2,ss++[_],hrg3,by simp;omega,hC.step K hkey hlk hat,hJ4⟩
      case measure=>rw [hrg3.left_eq,hrg.left_eq];exact hlt
theorem keys_gives (F:Fence) (n:Nat) (h10:F.fn 48) (hro:F.round=none) (hn:1≤n) (Bm Bo b nn:Nat) (D0:DataW Unit) {R:Value→Option (DataW Unit×List MemPlace)} (w:World) (hBm:Bm < w.heap.size)
    (K:Keyed Tryz.prog kT) (hinv:∀key kl,keyOf Tryz.prog kT key=some kl→∃x:K2,key=x.v)
    (hm:w.cell? ⟨Bm,Bo,none⟩=some (.map (some b))) (hown:w.ownsMap Tryz.prog kT R b nn D0) :
    SeqGives F n Tryz.prog 48 #[.pointer (some ⟨Bm,Bo,none⟩)] K2.v (fun ss=>∃left,Coll Tryz.prog kT D0 left (ss.map K2.v)∧∀kl,left kl=false) (Maps.size D0) w:=fun l J W hW hJ hY h0=>by
  have hown':W.ownsMap Tryz.prog kT R b nn D0:=by
    have hbl:=hown.lt
    obtain ⟨es,clock,hb,Ft,hs,hD⟩:=hown
    exact ⟨es,clock,(hW.block b hbl).trans hb,Ft,hs,hD⟩
  refine (keys1 F n h10 hro hn l Bm Bo b nn D0 (fun vs W=>∃xs:List K2,vs=xs.map K2.v∧J xs W) K hinv ?_ W ?_ ((hW.cell (p:=⟨Bm,Bo,none⟩) hBm).trans hm) hown' ⟨[],rfl,h0⟩).mono ?_
  · rintro _ x W1 ⟨xs,rfl,hJ1⟩ hlt
    obtain ⟨fn,tmps,assign,body,hy,hR⟩:=hY xs x W1 hJ1 (by simpa using hlt)
    refine ⟨fn,tmps,assign,body,hy,hR.mono ?_⟩
    rintro e W2 ⟨h1,h2,h3⟩
    exact ⟨h1,⟨xs++[x],by simp,h2⟩,h3⟩
  · rintro _ W1 W2 row ⟨xs,rfl,hJ1⟩ hg hr
    exact ⟨xs,rfl,hJ xs W1 W2 row hJ1 hg hr⟩
  · rintro e W2 ⟨h1,_,h2,xs,rfl,h3⟩
    exact ⟨h1,xs,h2,h3⟩
end Go.Proofs.YtpjfilgmfbdfoaaGreat
namespace Go.Proofs.YtpjfilgmfbdfoaaGreat
open Go.RowKit Go.Maps Go.Eng Go.Proofs
theorem lit1 {d:Nat} {t:TypeId} {cs:List Value} {ls:List Lit} (h:Tryz.prog.keyLits (d+1) t cs=some ls) (ht:Tryz.prog.underlying t=some .string∨∃q,Tryz.prog.underlying t=some (.int q)) :
    ∃c,cs=[c]∧c.oneCell'=true:=by
  unfold Program.keyLits at h
  rcases ht with ht | ⟨q,ht⟩<;>rw [ht] at h<;>split at h<;>first | (simp at h;done) | skip
  all_goals first | (rename_i e _;cases e;done) | exact ⟨_,rfl,rfl⟩ | (simp_all;done)
theorem two2 {l:List Value} (h:l.length=2):∃a b,l=[a,b]:=by
  match l,h with
  | [a,b],_=>exact ⟨a,b,rfl⟩
set_option maxRecDepth 100000 in
theorem hinv (key:Value) (kl:Lit) (h:keyOf Tryz.prog kT key=some kl):∃x:K2,key=x.v:=by
  have hn:Tryz.prog.types.size=(Tryz.prog.types.size - 1)+1:=by kernel_rfl
  have hn2:Tryz.prog.types.size - 1=(Tryz.prog.types.size - 2)+1:=by kernel_rfl
  have c27:Tryz.prog.cellsOf 54=2:=by kernel_rfl
  have c9:Tryz.prog.cellsOf 9=1:=by kernel_rfl
  have h:keyOf Tryz.prog 54 key=some kl:=h
  unfold keyOf at h
  rw [Tryz.underlying54] at h
  simp only at h
  split at h
  · obtain ⟨ls,hls,_⟩:=Option.map_eq_some_iff.1 h
    rw [hn,hn2] at hls
    generalize Tryz.prog.types.size - 2=n at hls
    unfold Program.keyLits at hls
    rw [Tryz.underlying54] at hls
    simp only at hls
    split at hls
    · rename_i hc
      rw [c27] at hc
      obtain ⟨a,b,hcs⟩:=two2 hc.1
      rw [hcs] at hls
      simp only [List.mapM_cons,List.mapM_nil,Option.map_eq_some_iff,Option.bind_eq_some_iff,Option.bind_eq_bind,c9,List.drop_zero,List.drop_succ_cons,List.take_succ_cons,List.take_zero] at hls
      obtain ⟨_,⟨l1,h1,l2,⟨l3,h3,_⟩,_⟩,_⟩:=hls
      obtain ⟨_,e1,b0⟩:=lit1 h1 (.inl Tryz.underlying9)
      obtain ⟨_,e3,b1⟩:=lit1 h3 (.inl Tryz.underlying9)
      cases e1
      cases e3
      refine ⟨⟨_,_,b0,b1⟩,?_⟩
      cases key<;>first | (simp [Value.cells] at hcs;done) | skip
      rename_i cs
      simp only [Value.cells] at hcs
      exact congrArg Value.agg (by apply Array.ext';simpa using hcs)
    · simp at hls
  · simp at h
end Go.Proofs.YtpjfilgmfbdfoaaGreat
namespace Go.Proofs.YtpjfilgmfbdfoaaGreat
open Go.RowKit Go.Maps Go.Sort Go.Shelf Go.Eng Go.Proofs
abbrev sT:Nat:=39
def K2.cs (x:K2):List Value:=[x.c0,x.c1]
def rowOf (ss:List K2):List Value:=ss.flatMap K2.cs
def apAssign:Code:=(Code.region 2
      #[{ dst:=some 5,op:=Op.alloc 54,type:=0,pos:="iter.go:51",after:=#[],guard:=none },
        { dst:=none,op:=Op.store 54 (Operand.tmp 5) (Operand.tmp 7),type:=0,pos:="iter.go:51",after:=#[{ on:=0,ground:=Ground.data },{ on:=0,ground:=Ground.phase }],guard:=none }]
      false)
def apBody:Code:=(Code.block 1
      (Code.region 3
        #[{ dst:=some 8,op:=Op.load 39 (Operand.tmp 2),type:=39,pos:="iter.go:52",after:=#[],guard:=none },
          { dst:=some 9,op:=Op.load 54 (Operand.tmp 5),type:=54,pos:="iter.go:52",after:=#[],guard:=none },
          { dst:=some 10,op:=Op.buildSlice 39 1 #[(0,Operand.tmp 9)],type:=39,pos:="iter.go:52",after:=#[{ on:=1,ground:=Ground.data }],guard:=none },
          { dst:=some 11,op:=Op.call { callee:=Callee.builtin Builtin.append,args:=#[Operand.tmp 8,Operand.tmp 10],argTypes:=#[39,39] },type:=39,pos:="iter.go:52",after:=#[{ on:=0,ground:=Ground.data },{ on:=2,ground:=Ground.data }],guard:=none },
          { dst:=none,op:=Op.store 39 (Operand.tmp 2) (Operand.tmp 11),type:=0,pos:="iter.go:52",after:=#[{ on:=3,ground:=Ground.data },{ on:=3,ground:=Ground.chain },{ on:=0,ground:=Ground.phase },{ on:=1,ground:=Ground.phase },{ on:=2,ground:=Ground.phase },{ on:=3,ground:=Ground.phase }],guard:=none }]
        false))
def apRec (fn:FuncId) (sv:Value) (Bs D:Nat) (st:LoopState) (pend:Option Code):Loop :=
  { state:=st,pending:=pend,fn,tmps:=#[.slice none 0 0,sv,.pointer (some ⟨Bs,0,none⟩),undef,.slice none 0 0,undef,sv,undef,undef,undef,undef,undef,undef],params:=#[7],assign:=apAssign,body:=apBody,defers:=D }
structure ApAt (w0:World) (fn:FuncId) (sv:Value) (Bs l D:Nat) (ss:List K2) (W:World):Prop where
  box:∃v,W.heap[Bs]?=some (.cells #[v] sT (0,0))∧W.ownsRow w0.heap.size kT 2 v ss.length (rowOf ss)∧(v=.slice none 0 0↔ss=[])
  L:W.heap[l]?=some (.loop (apRec fn sv Bs D .ready none))
  K:W.heap[D]?=some (.deferred (some []))
  below:Below w0.heap.size w0 W
abbrev zK:Value:=.agg #[.string ⟨#[]⟩,.string ⟨#[]⟩]
theorem cells_new (w:World) (cs:List Value) (t:TypeId):∀j u,cs[j]?=some u→(w.alloc (.cells cs.toArray t)).cell? ((⟨w.heap.size,0,none⟩:Addr).add j)=some u:=by
  intro j u hj
  have key:∀(W:World) (b:Nat),W.heap[b]?=some (.cells cs.toArray t (0,0))→W.cell? ((⟨b,0,none⟩:Addr).add j)=some u:=by
    intro W b hb
    cases j with
    | zero=>simp [World.cell?,Addr.add,hb,hj]
    | succ j=>simp [World.cell?,Addr.add,hb,hj]
  exact key _ _ (World.alloc_heap_new w _)
theorem ap_abides (w0:World) (fn:FuncId) (sv:Value) (Bs l D B:Nat) (hB:w0.heap.size≤B):AbidesFrom B (ApAt w0 fn sv Bs l D):=fun s W W' row h hg hrow=>by
  have hrow':∀r,row=some r→∃o:Obj,W.heap[r]?=some o∧o.isWalk=true:=fun r e=>(hrow r e).2
  obtain ⟨v,hv,hr,hn⟩:=h.box
  exact ⟨⟨v,(grownBy_keeps hg hrow' hv rfl).trans hv,ownsRow_abides_a hr hg hrow',hn⟩,(grownBy_keeps hg hrow' h.L rfl).trans h.L,(grownBy_keeps hg hrow' h.K rfl).trans h.K,
    h.below.grown hg h.below.size (fun k e=>Nat.le_trans hB (hrow k e).1)⟩
set_option maxRecDepth 100000 in
set_option maxHeartbeats 2000000 in
theorem apYield (F:Fence) (m:Nat) (w0:World) (fn:FuncId) (hfn:F.fn fn) (sv:Value) (Bs l D:Nat) (hBl:Bs≠l) (hDl:D≠l) (hDB:D≠Bs) (h0B:w0.heap.size≤Bs) (h0l:w0.heap.size≤l)
    (N:Nat) (hN:N≤maxLen) (hNb:N * 32≤140737488355328) (ss:List K2) (x:K2) (W:World) (h:ApAt w0 fn sv Bs l D ss W) (hlen:ss.length < N) :
    YieldAt F m Tryz.prog l #[x.v] W fun e W'=>e=.returned (.bool true)∧ApAt w0 fn sv Bs l D (ss++[x]) W'∧KeepsWalks W W':=by
  have mixed:Tryz.prog.follows .mixedOrders=true:=by kernel_rfl
  have hne:sT≠kT:=by decide
  have hi:Tryz.prog.info? kT=some Tryz.t54:=by kernel_rfl
  obtain ⟨a0,a1,b0,b1⟩:=x
  have s0:∀(w:World) (a:Addr) (m:Mode),(store a a0 m).run Tryz.prog w=stored Tryz.prog w a a0 m:=fun w a m=>run_store Tryz.prog w a a0 m b0
  have s1:∀(w:World) (a:Addr) (m:Mode),(store a a1 m).run Tryz.prog w=stored Tryz.prog w a a1 m:=fun w a m=>run_store Tryz.prog w a a1 m b1
  simp only [K2.v]
  refine ⟨fn,#[.slice none 0 0,sv,.pointer (some ⟨Bs,0,none⟩),undef,.slice none 0 0,undef,sv,Value.agg #[a0,a1],undef,undef,undef,undef,undef],apAssign,apBody,by simpa [apRec] using run_yield (P:=Tryz.prog) (args:=#[Value.agg #[a0,a1]]) h.L rfl,roundIn_of_wpIn hfn ?_⟩
  have hga:W.grownBy (W.alloc (.cells #[a0,a1] kT)) none:=grownBy_alloc0 _ _
  have h':=ap_abides w0 fn sv Bs l D w0.heap.size (Nat.le_refl _) ss W _ none h hga (fun r e=>by cases e)
  have hl0:l < W.heap.size:=(Array.getElem?_eq_some_iff.1 h.L).1
  unfold apAssign
  gi_wp2_with gi_round_op_a
  obtain ⟨Wa,hWa⟩:∃Wa,W.alloc (.cells #[a0,a1] kT)=Wa:=⟨_,rfl⟩
  have hcv:Wa.heap[W.heap.size]?=some (.cells #[a0,a1] kT (0,0)):=by rw [←hWa];exact World.alloc_heap_new W _
  have hk1:KeepsWalks W Wa:=by rw [←hWa];exact KeepsWalks.alloc _ _
  rw [hWa] at h' ⊢
  clear hWa hga
  obtain ⟨v,hv,hrow,_⟩:=h'.box
  have hl:l < Wa.heap.size:=(Array.getElem?_eq_some_iff.1 h'.L).1
  have hbr:=run_beginRound (P:=Tryz.prog) h'.L rfl
  obtain ⟨W2,hW2⟩:∃W2,Wa.putObj l (.loop { apRec fn sv Bs D .ready none with state:=.busy })=W2:=⟨_,rfl⟩
  rw [hW2] at hbr
  have hg2:Wa.grownBy W2 (some l):=by rw [←hW2];exact grownBy_putObj_a _ _ _
  have hk2:KeepsWalks Wa W2:=by rw [←hW2];exact KeepsWalks.putObj _ h'.L rfl
  have hv2:W2.heap[Bs]?=some (.cells #[v] sT (0,0)):=by rw [←hW2];exact (World.putObj_heap_other hBl).trans hv
  have hK2:W2.heap[D]?=some (.deferred (some [])):=by rw [←hW2];exact (World.putObj_heap_other hDl).trans h'.K
  have hL2:W2.heap[l]?=some (.loop { apRec fn sv Bs D .ready none with state:=.busy }):=by rw [←hW2];exact World.putObj_heap_same hl
  have hrow2:W2.ownsRow w0.heap.size kT 2 v ss.length (rowOf ss):=hrow.kept hg2 (ownsRow_ne_a hrow h'.L (fun cur e=>by first | cases e | exact hne (Obj.cells.inj e).2.1))
  have hb2:Below w0.heap.size w0 W2:=h'.below.grown hg2 h'.below.size (fun k e=>by cases e;exact h0l)
  obtain ⟨hc2,hf2⟩:=cell_of_box_a hv2
  have hcv2:W2.heap[W.heap.size]?=some (.cells #[a0,a1] kT (0,0)):=by rw [←hW2];exact (World.putObj_heap_other (by omega)).trans hcv
  have hBlt:Bs < W2.heap.size:=(Array.getElem?_eq_some_iff.1 hv2).1
  have hl2:l < W2.heap.size:=(Array.getElem?_eq_some_iff.1 hL2).1
  have hDlt:D < W2.heap.size:=(Array.getElem?_eq_some_iff.1 hK2).1
  have ne_of:∀{j:Nat} {o:Obj},W2.heap[j]?=some o→(∀cur,o≠.cells cur kT (0,0))→some j≠v.ownBlock:=fun hj hno=>by
    rcases ownsRow_ne_a hrow2 hj hno with e | e
    · rw [e];simp
    · exact fun e'=>e e'.symm
  clear hW2
  have d0:W2.cell? ⟨W.heap.size,0,none⟩=some a0:=by simp [World.cell?,hcv2]
  have d1:W2.cell? ⟨W.heap.size,1,none⟩=some a1:=by simp [World.cell?,hcv2]
  unfold apBody
  gi_wp2_with (first
    | (gi_at_builtin;refine wpListIn_append_own _ rfl _ _ sT rfl w0.heap.size kT Tryz.t54 zK 2 32 Tryz.underlying39 hi (by rfl) (by rfl) (by rfl) (by rfl) (by decide) _ _ _ rfl (hrow2.alloc _) ⟨W2.heap.size,0,none⟩ 1 1 [a0,a1] rfl rfl (cells_new _ [a0,a1] _) (by simp [b0,b1]) (by omega) (by omega) (by have:=hb2.size;simp;omega) ?_;intro v' w3 hown' hg3 hnil3
       have hv3:w3.heap[Bs]?=some (.cells #[v] sT (0,0)):=(hg3.block Bs (by simp;omega) (ne_of hv2 (fun cur e=>by first | cases e | exact hne (Obj.cells.inj e).2.1))).trans ((Below.heap_alloc _ _ Bs hBlt).trans hv2)
       obtain ⟨hc3,hf3⟩:=cell_of_box_a hv3
       obtain ⟨g',cap',cur',rfl,hbase',hgb',hr1,hr2,hr3,hr4⟩:∃g' cap' cur',v'=.slice (some ⟨g',0,none⟩) (ss.length+1) cap'∧w0.heap.size≤g'∧w3.heap[g']?=some (.cells cur' kT (0,0))∧ss.length+1≤cap'∧cap'≤maxLen∧cur'.size=cap' * 2∧cur'.toList.take ((ss.length+1) * 2)=rowOf ss++[a0,a1]:=by
         rcases hown'.2 with ⟨_,h0⟩ | h'
         · exact absurd h0 (by omega)
         · exact h'
       go_frame)
    | gi_round_op_a)
  have hg3':(W2.alloc (.cells #[a0,a1] kT)).grownBy w3 v.ownBlock:=hg3
  have hL3:w3.heap[l]?=some (.loop { apRec fn sv Bs D .ready none with state:=.busy }):=(hg3'.block l (by simp;omega) (ne_of hL2 (fun cur e=>by first | cases e | exact hne (Obj.cells.inj e).2.1))).trans ((Below.heap_alloc _ _ l hl2).trans hL2)
  have hK3:w3.heap[D]?=some (.deferred (some [])):=(hg3'.block D (by simp;omega) (ne_of hK2 (fun cur e=>by first | cases e | exact hne (Obj.cells.inj e).2.1))).trans ((Below.heap_alloc _ _ D hDlt).trans hK2)
  obtain ⟨w4,hw4⟩:∃w4,w3.setCell ⟨Bs,0,none⟩ (.slice (some ⟨g',0,none⟩) (ss.length+1) cap')=w4:=⟨_,rfl⟩
  rw [hw4]
  have hg4:w3.grownBy w4 (some Bs):=by rw [←hw4];exact grownBy_setCell0_a _ _ _
  have hv4:w4.heap[Bs]?=some (.cells #[.slice (some ⟨g',0,none⟩) (ss.length+1) cap'] sT (0,0)):=by rw [←hw4];exact heap_setCell_box_a _ hv3
  have hL4:w4.heap[l]?=some (.loop { apRec fn sv Bs D .ready none with state:=.busy }):=(hg4.block l (Array.getElem?_eq_some_iff.1 hL3).1 (fun e=>hBl (by cases e;rfl))).trans hL3
  have hK4:w4.heap[D]?=some (.deferred (some [])):=(hg4.block D (Array.getElem?_eq_some_iff.1 hK3).1 (fun e=>hDB (by cases e;rfl))).trans hK3
  have hrow4:=hown'.kept hg4 (ownsRow_ne_a hown' hv3 (fun cur e=>by first | cases e | exact hne (Obj.cells.inj e).2.1))
  have hl4:l < w4.heap.size:=(Array.getElem?_eq_some_iff.1 hL4).1
  have hb3:Below w0.heap.size w0 w3:=(hb2.alloc hb2.size _).grown hg3' (by have:=hb2.size;simp;omega) (fun k e=>(hrow2.lt k e).1)
  have hb4:Below w0.heap.size w0 w4:=hb3.grown hg4 hb3.size (fun k e=>by cases e;exact h0B)
  have hk4:KeepsWalks Wa w4:=((hk2.trans (KeepsWalks.alloc _ _)).trans (KeepsWalks.of_grownBy hg3' (ownsRow_not_walk_a (hrow2.alloc _)))).trans (by rw [←hw4];exact KeepsWalks.setCell _ _ _)
  clear hw4
  refine ⟨_,_,run_endRound none hL4,rfl,⟨⟨_,(World.putObj_heap_other hBl).trans hv4,?_,by simp⟩,World.putObj_heap_same hl4,(World.putObj_heap_other hDl).trans hK4,hb4.grown (grownBy_putObj_a _ _ _) hb4.size (fun k e=>by cases e;exact h0l)⟩,hk1.trans (hk4.trans (KeepsWalks.putObj _ hL4 rfl))⟩
  have:=hrow4.kept (grownBy_putObj_a w4 l (.loop { { apRec fn sv Bs D .ready none with state:=.busy } with state:=if (none:Option Code).isNone then .ready else .done,pending:=none })) (ownsRow_ne_a hrow4 hL4 (fun cur e=>by first | cases e | exact hne (Obj.cells.inj e).2.1))
  simpa [rowOf,K2.cs] using this
set_option maxRecDepth 100000 in
set_option maxHeartbeats 2000000 in
theorem appendSeq_in (F:Fence) (n:Nat) (h11:F.fn 69) (hro:F.round=none) (hn:2≤n) (g:Nat) (lb:Array Value) (hFg:F.fn g) (eg:∀args w,(callFunc g args).run Tryz.prog w=.ok (.enter g args) w)
    (S:List K2→Prop) (N:Nat) (hN:N≤maxLen) (hNb:N * 32≤140737488355328) (w:World) (hseq:SeqGives F (n - 1) Tryz.prog g lb K2.v S N w) :
    CallsIn F n Tryz.prog 69 #[.slice none 0 0,.func (.func g) #[] lb] w fun e w'=>∃(v:Value) (ss:List K2),e=.returned v∧S ss∧w'.ownsRow w.heap.size kT 2 v ss.length (rowOf ss)∧(v=.slice none 0 0↔ss=[])∧Below w.heap.size w w':=by
  have h1:1≤n:=by omega
  have mixed:Tryz.prog.follows .mixedOrders=true:=by kernel_rfl
  have hne:sT≠kT:=by decide
  have FG:=Tryz.func69
  refine callsIn_of_wp_marks FG rfl h11 ?_ hro
  simp only [Tryz.ntmps69,List.size_toArray,List.length_cons,List.length_nil,Nat.reduceAdd,Nat.reduceSub,Array.replicate_succ,Array.replicate_zero,List.push_toArray,List.append_toArray,List.nil_append,List.cons_append]
  gi_wp2
  refine wpIn_rangeFunc ?_
  intro fn hfn
  rw [hro]
  obtain ⟨W0,hW0⟩:∃W0,w.alloc (.cells #[.slice none 0 0] sT)=W0:=⟨_,rfl⟩
  have hs0:W0.heap.size=w.heap.size+1:=by rw [←hW0];simp
  have hv0:W0.heap[w.heap.size]?=some (.cells #[.slice none 0 0] sT (0,0)):=by rw [←hW0];exact World.alloc_heap_new w _
  have hb0:Below w.heap.size w W0:=by rw [←hW0];exact (Below.refl _ w).alloc (Nat.le_refl _) _
  rw [hW0]
  obtain ⟨W1,hW1⟩:∃W1,(W0.alloc (.deferred (some []))).alloc (.loop (apRec fn (.func (.func g) #[] lb) w.heap.size W0.heap.size .ready none))=W1:=⟨_,rfl⟩
  have hold:∀k,k < W0.heap.size→W1.heap[k]?=W0.heap[k]?:=fun k hk=>by
    rw [←hW1];exact (Below.heap_alloc _ _ k (by simp;omega)).trans (Below.heap_alloc _ _ k hk)
  have hb1:Below w.heap.size w W1:=by rw [←hW1];exact (hb0.alloc hb0.size _).alloc (by have:=hb0.size;simp;omega) _
  have hs1:W1.heap.size=W0.heap.size+2:=by rw [←hW1];simp
  have hM:ApAt w fn (.func (.func g) #[] lb) w.heap.size (W0.heap.size+1) W0.heap.size [] W1 :=
    ⟨⟨_,(hold w.heap.size (by omega)).trans hv0,⟨rfl,.inl ⟨rfl,rfl⟩⟩,by simp⟩,
     by rw [←hW1];have:=World.alloc_heap_new (W0.alloc (.deferred (some []))) (.loop (apRec fn (.func (.func g) #[] lb) w.heap.size W0.heap.size .ready none));rwa [World.size_alloc] at this,
     by rw [←hW1];exact (Below.heap_alloc _ _ _ (by simp)).trans (World.alloc_heap_new W0 _),hb1⟩
  refine ⟨W0.heap.size+1,[{ target:=.collected W0.heap.size,args:=#[] }],W1,{ target:=.fn (.func g) lb,args:=#[.func (.yield (W0.heap.size+1)) #[] #[]] },W1,g,
    #[.func (.yield (W0.heap.size+1)) #[] #[]]++lb,W1,?_,?_,?_,?_,fun _=>h1,?_⟩
  · rw [←hW1];exact run_enterLoop_outer _ _ _ _ _
  · simp [resolve,go_sem]
  · intro f' hf';simp [Target.leads] at hf';subst hf';exact hFg
  · simp [invoke,go_sem,eg]
  · refine (hseq (W0.heap.size+1) (ApAt w fn (.func (.func g) #[] lb) w.heap.size (W0.heap.size+1) W0.heap.size) W1 hb1 (ap_abides _ _ _ _ _ _ _ hb1.size)
      (fun pre x W hJ hl=>apYield F (n - 1 - 1) w fn hfn _ w.heap.size (W0.heap.size+1) W0.heap.size (by omega) (by omega) (by omega) (Nat.le_refl _) (by omega) N hN hNb pre x W hJ hl) hM).mono ?_
    rintro e W2 ⟨⟨v0,rfl⟩,ss,hS,h2⟩
    obtain ⟨v,hv,hrow,hnil⟩:=h2.box
    have hend:=run_endLoop (P:=Tryz.prog) h2.L (by simp [apRec])
    obtain ⟨W3,hW3⟩:∃W3,W2.putObj (W0.heap.size+1) (.loop { apRec fn (.func (.func g) #[] lb) w.heap.size W0.heap.size .ready none with state:=.exhausted })=W3:=⟨_,rfl⟩
    rw [hW3] at hend
    have hg3:W2.grownBy W3 (some (W0.heap.size+1)):=by rw [←hW3];exact grownBy_putObj_a _ _ _
    have hv3:W3.heap[w.heap.size]?=some (.cells #[v] sT (0,0)):=by rw [←hW3];exact (World.putObj_heap_other (by omega)).trans hv
    have hK3:W3.heap[W0.heap.size]?=some (.deferred (some [])):=by rw [←hW3];exact (World.putObj_heap_other (by omega)).trans h2.K
    have hrow3:=hrow.kept hg3 (ownsRow_ne_a hrow h2.L (fun cur e=>by first | cases e | exact hne (Obj.cells.inj e).2.1))
    have hb3:Below w.heap.size w W3:=h2.below.grown hg3 h2.below.size (fun k e=>by cases e;omega)
    obtain ⟨hc3,hf3⟩:=cell_of_box_a hv3
    clear hW3
    refine ⟨none,W3,hend,?_⟩
    gi_wp2
    rw [←hs0]
    refine ⟨by simp,.inl ⟨_,_,rfl,run_takeDeferred hK3,?_⟩⟩
    exact ⟨_,results_tmp rfl _ _ _,v,ss,rfl,hS,hrow3.kept (grownBy_putObj_a _ _ _) (ownsRow_ne_a hrow3 hK3 (fun cur e=>by first | cases e | exact hne (Obj.cells.inj e).2.1)),hnil,hb3.grown (grownBy_putObj_a _ _ _) hb3.size (fun k e=>by cases e;omega)⟩
set_option maxHeartbeats 1000000 in
theorem collect_in (F:Fence) (n:Nat) (h8:F.fn 46) (h11:F.fn 69) (hro:F.round=none) (hn:3≤n) (g:Nat) (lb:Array Value) (hFg:F.fn g) (eg:∀args w,(callFunc g args).run Tryz.prog w=.ok (.enter g args) w)
    (S:List K2→Prop) (N:Nat) (hN:N≤maxLen) (hNb:N * 32≤140737488355328) (w:World) (hseq:SeqGives F (n - 1 - 1) Tryz.prog g lb K2.v S N w) :
    CallsIn F n Tryz.prog 46 #[.func (.func g) #[] lb] w fun e w'=>∃(v:Value) (ss:List K2),e=.returned v∧S ss∧w'.ownsRow w.heap.size kT 2 v ss.length (rowOf ss)∧(v=.slice none 0 0↔ss=[])∧Below w.heap.size w w':=by
  have h1:1≤n:=by omega
  have e11:∀args w,(callFunc 69 args).run Tryz.prog w=.ok (.enter 69 args) w:=fun args w=>by simp [callFunc,Tryz.func69,Tryz.f69]
  have mixed:Tryz.prog.follows .mixedOrders=true:=by kernel_rfl
  have FG:=Tryz.func46
  refine callsIn_of_wp FG rfl h8 ?_ hro
  simp only [Tryz.ntmps46,List.size_toArray,List.length_cons,List.length_nil,Nat.reduceAdd,Nat.reduceSub,Array.replicate_succ,Array.replicate_zero,List.push_toArray,List.append_toArray,List.nil_append,List.cons_append]
  gi_wp2_with (gi_at_fn 69;refine (appendSeq_in F (n - 1) h11 hro (by omega) g lb hFg eg S N hN hNb _ hseq).mono ?_;rintro e w' ⟨v,ss,rfl,hS,hrow,hnil,hb⟩)
  go_ret
  exact ⟨v,ss,rfl,hS,hrow,hnil,hb⟩
end Go.Proofs.YtpjfilgmfbdfoaaGreat
namespace Go.Proofs.YtpjfilgmfbdfoaaGreat
open Go.RowKit Go.Maps Go.Eng Go.Proofs
open Go.WideElems (Fit rd rg rd_key rd_val rg_of rd_mk)
theorem got (F:Fence) (n:Nat) (h8:F.fn 46) (h11:F.fn 69) (h10:F.fn 48) (hro:F.round=none) (hn:3≤n) (Bm Bo b:Nat) (w:World) (hBm:Bm < w.heap.size)
    (K:Keyed Tryz.prog kT) (hm:w.cell? ⟨Bm,Bo,none⟩=some (.map (some b))) {es:Array MapEntry} {clock:Nat} (hb:w.heap[b]?=some (.map es clock)) {R:Value→Option (DataW Unit×List MemPlace)} (Ft:Fit Tryz.prog kT R es clock) (hN:es.size * 32≤140737488355328) :
    CallsIn F n Tryz.prog 46 #[.func (.func 48) #[] #[.pointer (some ⟨Bm,Bo,none⟩)]] w fun e w' =>
      ∃(v:Value) (ss:List K2),e=.returned v∧(ss.map K2.v).Perm (es.toList.map (·.key))∧w'.ownsRow w.heap.size kT 2 v ss.length (rowOf ss)∧(v=.slice none 0 0↔ss=[])∧Below w.heap.size w w':=by
  have hown:w.ownsMap Tryz.prog kT R b es.size (.map ((es.toList.map (rg Tryz.prog kT R)).foldr DataW.insert [])):=⟨es,clock,hb,Ft,Nat.le_refl _,rfl⟩
  have hsz:Maps.size (.map ((es.toList.map (rg Tryz.prog kT R)).foldr DataW.insert []):DataW Unit)=es.size:=by
    rw [Maps.size_eq,(Go.WideShapes.sorted_perm _).length_eq]
    simp
  have hseq:=keys_gives F (n - 1 - 1) h10 hro (by omega) Bm Bo b es.size _ w hBm K hinv hm hown
  refine (collect_in F n h8 h11 hro hn 48 #[.pointer (some ⟨Bm,Bo,none⟩)] h10 (fun args w=>by simp [callFunc,Tryz.func48,Tryz.f48]) _ _ (by rw [hsz];exact Ft.size) (by rw [hsz];exact hN) w hseq).mono ?_
  rintro e w' ⟨v,ss,h1,⟨left,h2,h3⟩,h4,h5,h6⟩
  exact ⟨v,ss,h1,Coll.perm K Ft h2 h3,h4,h5,h6⟩
end Go.Proofs.YtpjfilgmfbdfoaaGreat
namespace Go.Proofs.YtpjfilgmfbdfoaaGreat
open Go.Eng Go.RowKit Go.Sort Go.Shelf Go.Proofs
set_option maxRecDepth 100000
def KOk (k:Tw):Prop:=k.1.length≤big∧k.2.length≤big
abbrev KA:={k:Tw // KOk k}
instance:Inhabited KA:=⟨⟨([],[]),by decide,by decide⟩⟩
def bS (s:Str):Value:=.string ⟨s.toArray⟩
def encK (x:KA):List Value:=[bS x.1.1,bS x.1.2]
def vK (x:KA):Value:=.agg #[bS x.1.1,bS x.1.2]
theorem rd_bS {C:Pay Pl} {cx:Cx Pl} {s:Str} (h:s.length≤big):RD C cx (bS s) (.str s):=.str _ _ rfl h
theorem rd_vK (x:KA) {C:Pay Pl} {cx:Cx Pl}:RD C cx (vK x) (.agg (cT x.1)):=by
  obtain ⟨h1,h2⟩:=x.2
  refine .agg _ _ rfl (fun i v hv=>?_) (fun i v c hv hc=>?_)
  · match i,hv with
    | 0,hv=>cases hv;rfl
    | 1,hv=>cases hv;rfl
    | i+2,hv=>simp at hv
  · match i,hv,hc with
    | 0,hv,hc=>cases hv;cases hc;exact rd_bS h1
    | 1,hv,hc=>cases hv;cases hc;exact rd_bS h2
    | i+2,hv,hc=>simp at hv
theorem str_inv {C:Pay Pl} {cx:Cx Pl} {v:Value} {s:Str} (h:RD C cx v (.str s)):v=bS s∧s.length≤big:=by
  cases h with
  | str b _ h1 h2 =>
    subst h1
    exact ⟨by simp [bS],h2⟩
theorem int_inv {C:Pay Pl} {cx:Cx Pl} {v:Value} {k:IntKind} {n:Int} (h:RD C cx v (.int k n)):v=.int k n∧inR k n=true:=by
  cases h with
  | int _ _ h=>exact ⟨rfl,h⟩
theorem vK_inv {C:Pay Pl} {cx:Cx Pl} {v:Value} {k:Tw} (h:RD C cx v (.agg (cT k))):∃hk:KOk k,v=vK ⟨k,hk⟩:=by
  cases h with
  | agg vs _ hs _ h =>
    obtain ⟨l⟩:=vs
    match l,hs with
    | [a,b],_ =>
      obtain ⟨h0,k0⟩:=str_inv (h 0 a _ rfl rfl)
      obtain ⟨h1,k1⟩:=str_inv (h 1 b _ rfl rfl)
      exact ⟨⟨k0,k1⟩,by rw [h0,h1];rfl⟩
theorem grown_of {w w':World} (h:BelowD true w.heap.size w w'):∃q os,w'=grow (w.drewN q) os:=by
  refine ⟨w'.drawn - w.drawn,w'.heap.extract w.heap.size w'.heap.size,?_⟩
  have hd:=h.drawn rfl
  have hh:w'.heap=w.heap++w'.heap.extract w.heap.size w'.heap.size:=by
    refine Array.ext_getElem? fun i=>?_
    rw [Array.getElem?_append]
    split
    · rename_i hi;exact h.block i hi
    · rename_i hi
      rw [Array.getElem?_extract]
      by_cases h2:i < w'.heap.size
      · rw [if_pos (by omega),show w.heap.size+(i - w.heap.size)=i by omega]
      · rw [if_neg (by omega),Array.getElem?_eq_none (by omega)]
  have h1:=h.os
  have h2:=h.tape
  have h3:=h.output
  have hd':w'.drawn=w.drawn+(w'.drawn - w.drawn):=by omega
  generalize w'.heap.extract w.heap.size w'.heap.size=os at hh
  generalize w'.drawn - w.drawn=q at hd'
  cases w;cases w'
  simp only [grow,World.drewN] at *
  subst h1 h2 h3 hh hd'
  rfl
theorem eg16:∀args w,(callFunc 24 args).run Tryz.prog w=.ok (.enter 24 args) w:=enters_of Tryz.func24 (by kernel_rfl) rfl
theorem cmp_calls (x y:KA) (w:World):Calls Tryz.prog 24 #[vK x,vK y] w fun e w'=>e=.returned (.int .i64 (cmpK x.1 y.1))∧∃q os,w'=grow (w.drewN q) os:=by
  have h:=cmpK_sound x.1 y.1 w (fun _=>False) #[vK x,vK y] (fun i cs h=>by simp [X1,glb] at h) (fun _ h=>h.elim) rfl (fun i v c hv hc=>by
    match i,hv,hc with
    | 0,hv,hc=>cases hv;cases hc;exact rd_vK x
    | 1,hv,hc=>cases hv;cases hc;exact rd_vK y
    | i+2,hv,hc=>simp at hv)
  rcases h with ⟨_,h⟩ | ⟨v,w',h,_⟩
  · refine h.mono ?_
    rintro e w' ⟨v,rfl,h1,h2,_⟩
    obtain ⟨rfl,_⟩:=int_inv (show RD _ _ v (.int .i64 _) from h1)
    exact ⟨rfl,grown_of h2⟩
  · have h':=(eg16 #[vK x,vK y] w).symm.trans h
    simp at h'
def cfK (x y:KA):Int:=cmpK x.1 y.1
theorem cmp_lays (blk off size:Nat) (w:World):CmpLays Tryz.prog 24 #[] encK 2 cfK blk off size w:=fun _ _ _ _ x y=>cmp_calls x y _
theorem lt_iff (x y:KA):ltOf cfK x y=true↔cmpK x.1 y.1 < 0:=decide_eq_true_iff
theorem lt_not (x y:KA):ltOf cfK x y=false↔cmpK y.1 x.1≤0:=by
  have h:=pre_K.anti x.1 y.1
  have h2:ltOf cfK x y=false↔¬ cmpK x.1 y.1 < 0:=decide_eq_false_iff_not
  rw [h2,h];omega
theorem swoK:SWO (ltOf cfK) where
  irrefl x:=by
    rw [lt_not]
    have:=pre_K.anti x.1 x.1
    omega
  trans x y z h1 h2:=by
    rw [lt_iff] at *
    have a1:=pre_K.anti x.1 y.1
    have a2:=pre_K.anti y.1 z.1
    have a3:=pre_K.anti x.1 z.1
    have h3:=pre_K.le x.1 y.1 z.1 (by omega) (by omega)
    by_cases h0:cmpK x.1 z.1=0
    · have:=pre_K.le z.1 x.1 y.1 (by omega) (by omega)
      omega
    · omega
  ntrans x y z h1 h2:=by
    rw [lt_not] at *
    exact pre_K.le _ _ _ h2 h1
theorem totK (x y:KA) (h1:ltOf cfK x y=false) (h2:ltOf cfK y x=false):x=y:=by
  rw [lt_not] at *
  have:=pre_K.anti x.1 y.1
  exact Subtype.ext (cmpK_0 (by omega))
theorem sortA (l:List KA):(l.mergeSort fun x y=>!(ltOf cfK) y x).map (·.1)=sortK (l.map (·.1)):=by
  refine List.Perm.eq_of_pairwise (le:=fun x y=>leK x y=true) (fun a b _ _ h1 h2=>leK_anti a b h1 h2) ?_ (List.pairwise_mergeSort leK_trans leK_total _) (((List.mergeSort_perm _ _).map _).trans (List.mergeSort_perm _ _).symm)
  refine List.pairwise_map.2 ?_
  exact List.pairwise_mergeSort (le:=fun x y:KA=>!(ltOf cfK) y x) (fun a b c h1 h2=>leK_trans a.1 b.1 c.1 h1 h2) (fun a b=>leK_total a.1 b.1) l
end Go.Proofs.YtpjfilgmfbdfoaaGreat
