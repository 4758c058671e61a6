/-
  THE ENGINE, PART B: WHAT IT MEANS THAT A VALUE READS AS DATA, and how that stays.
-/
import Derived.Test.YtlnkjdedeegajaaGreatDoorEngA
import Derived.Below
namespace Go.Eng
open Go.RowKit
variable {α:Type}
structure Szd (es:Array MapEntry) (clock n:Nat):Prop where
  size:es.size=n
  st:MapKept.Stamped es clock
structure Cx (α:Type) where
  w:World
  av:Nat→Prop
  bx:Nat→Option Nat
  ar:Nat→Option (Option Nat×α)
def okK (k:SK) (a:Option Addr) (n c:Nat):Prop :=
  match k with
  | .any=>True
  | .full=>c=n
  | .nil b=>a.isNone=b
  | .spare _=>True
def SpOk (C:Pay α) (w:World) (p:α) (k:SK) (b off n c:Nat):Prop :=
  match k with
  | .spare l=>n+l.length≤c∧(n+l.length) * C.bys p≤big∧C.esz p=1∧∀i (h:i < l.length),w.cell? ⟨b,off+(n+i),none⟩=some (.int .u8 l[i].toNat)
  | _=>True
def mkFn (f:FuncId) (vs:Array Value):Value:=bif Nat.blt f mvB then .func (.func f) #[] vs else .func (.func (f % mvB)) vs #[]
inductive RD (C:Pay α) (cx:Cx α):Value→D α→Prop
  | bool (b:Bool):RD C cx (.bool b) (.bool b)
  | int (k:IntKind) (n:Int) (h:inR k n=true):RD C cx (.int k n) (.int k n)
  | str (s:ByteArray) (l:List UInt8) (h:s.data.toList=l) (hl:l.length≤big):RD C cx (.string s) (.str l)
  | nilP:RD C cx (.pointer none) .nilP
  | nilS:RD C cx (.slice none 0 0) .nilS
  | nilF:RD C cx .nilFunc .nilF
  | nilI:RD C cx .nilIface .nilI
  | nilM:RD C cx (.map none) .nilM
  | lit (v:Value):RD C cx v (.lit v)
  | agg (vs:Array Value) (cs:List (D α)) (hs:vs.size=cs.length) (h1:∀(i:Nat) v,vs[i]?=some v→v.oneCell'=true)
      (h:∀(i:Nat) v c,vs[i]?=some v→cs[i]?=some c→RD C cx v c):RD C cx (.agg vs) (.agg cs)
  | tup (vs:Array Value) (cs:List (D α)) (hs:vs.size=cs.length)
      (h:∀(i:Nat) v c,vs[i]?=some v→cs[i]?=some c→RD C cx v c):RD C cx (.tuple vs) (.tup cs)
  | pl0 (a:Option Addr) (c:Nat) (p:α) (k:SK) (hl:C.len p=0) (hk:okK k a 0 c) (hsp:isSp k=false:=by rfl):RD C cx (.slice a 0 c) (.pl p k)
  | pl (b off n c:Nat) (p:α) (k:SK) (vs:Nat→Nat→Value) (hn:n=C.len p) (hc:n≤c) (hb:n * C.bys p≤big)
      (hk:okK k (some ⟨b,off,none⟩) n c) (hav:¬ cx.av b)
      (hcell:∀(i j:Nat) d,i < n→(C.elem p i)[j]?=some d→cx.w.cell? ⟨b,off+(i * C.esz p+j),none⟩=some (vs i j))
      (h1:∀(i j:Nat) d,i < n→(C.elem p i)[j]?=some d→(vs i j).oneCell'=true)
      (hrd:∀(i j:Nat) d,i < n→(C.elem p i)[j]?=some d→RD C cx (vs i j) d) (hsp:SpOk C cx.w p k b off n c:=by exact True.intro):RD C cx (.slice (some ⟨b,off,none⟩) n c) (.pl p k)
  | arrO (o b:Nat) (p:α) (n c:Nat) (ho:cx.ar o=some (some b,p)) (hn:n=C.len p) (hc:n≤c)
      (hsz:∃cells T fz,cx.w.heap[b]?=some (.cells cells T fz)∧c * C.esz p≤cells.size):RD C cx (.slice (some ⟨b,0,none⟩) n c) (.arr o)
  | arrN (o:Nat) (p:α) (a:Option Addr) (ho:cx.ar o=some (none,p)) (hn:C.len p=0):RD C cx (.slice a 0 0) (.arr o)
  | ptr (o off b:Nat) (ho:cx.bx o=some b):RD C cx (.pointer (some ⟨b,off,none⟩)) (.ptr o off)
  | epr (o i off b:Nat) (p:α) (ho:cx.ar o=some (some b,p)) (hi:i < C.len p):RD C cx (.pointer (some ⟨b,i * C.esz p+off,none⟩)) (.epr o i off)
  | mp (o b:Nat) (ho:cx.bx o=some b):RD C cx (.map (some b)) (.mp o)
  | mr (b clock:Nat) (es:Array MapEntry) (p:α) (hav:¬ cx.av b) (hh:cx.w.heap[b]?=some (.map es clock)) (hs:Szd es clock (C.len p))
      (hd:∀i j,i < C.len p→j < C.len p→C.mkey p i=C.mkey p j→i=j)
      (hk:∀(i:Nat) e,es[i]?=some e→RD C cx e.key (C.mkey p i)) (hv:∀(i:Nat) e,es[i]?=some e→RD C cx e.val (C.mval p i)):RD C cx (.map (some b)) (.mr p)
  | ref (b off:Nat) (cs:List (D α)) (vs:Nat→Value) (hav:cs≠[]→¬ cx.av b)
      (hcell:∀(i:Nat) c,cs[i]?=some c→cx.w.cell? ⟨b,off+i,none⟩=some (vs i))
      (h1:∀(i:Nat) c,cs[i]?=some c→(vs i).oneCell'=true)
      (hrd:∀(i:Nat) c,cs[i]?=some c→RD C cx (vs i) c):RD C cx (.pointer (some ⟨b,off,none⟩)) (.ref cs)
  | fn (f f':FuncId) (a b vs:Array Value) (cs:List (D α)) (hs:vs.size=cs.length)
      (h:∀(i:Nat) v c,vs[i]?=some v→cs[i]?=some c→RD C cx v c) (hm:Value.func (.func f') a b=mkFn f vs):RD C cx (.func (.func f') a b) (.fn f cs)
  | ifc (t:TypeId) (v:Value) (d:D α) (h:RD C cx v d):RD C cx (.iface t v) (.ifc t d)
  | ifa (t:TypeId) (v:Value):RD C cx (.iface t v) .ifa
  | mrefN (cs:List (D α)):RD C cx (.pointer none) (.mref false cs)
  | mrefS (a:Addr) (cs:List (D α)) (hc:closedL cs=true) (h:RD C cx (.pointer (some a)) (.ref cs)):RD C cx (.pointer (some a)) (.mref true cs)
  | ow (k:List Nat) (v:Value) (d:D α) (h:RD C cx v d):RD C cx v (.ow k d)
  | bad (v:Value):RD C cx v .bad
inductive Dle (C:Pay α):D α→D α→Prop
  | same (d:D α):Dle C d d
  | nil (p:α) (h:C.len p=0):Dle C .nilS (.pl p .any)
  | any (p:α) (k:SK):Dle C (.pl p k) (.pl p .any)
  | vac (d d':D α) (h:∀cx v,¬ RD C cx v d):Dle C d d'
  | ref (cs ds:List (D α)) (hl:cs.length=ds.length) (h:∀(j:Nat) d d',cs[j]?=some d→ds[j]?=some d'→Dle C d d'):Dle C (.ref cs) (.ref ds)
inductive DleV (C:Pay α):D α→D α→Prop
  | one {d d':D α} (h:Dle C d d'):DleV C d d'
  | agg (cs ds:List (D α)) (hl:cs.length=ds.length) (h:∀(j:Nat) d d',cs[j]?=some d→ds[j]?=some d'→Dle C d d'):DleV C (.agg cs) (.agg ds)
structure PayOk (C:Pay α):Prop where
  pos:∀p,0 < C.esz p
  bpos:∀p,0 < C.bys p
  elen:∀p i,i < C.len p→(C.elem p i).length=C.esz p
  clo:∀p i d,d∈C.elem p i→closed d=true
  emp:∀t p,C.emp t=some p→C.len p=0
  snoc:∀p cs q,C.snoc p cs=some q→C.len q=C.len p+1∧C.esz q=C.esz p∧C.bys q=C.bys p∧(∀i,i < C.len p→C.elem q i=C.elem p i) ∧
    cs.length=C.esz p∧∀(j:Nat) d d',cs[j]?=some d→(C.elem q (C.len p))[j]?=some d'→Dle C d d'
  cat:∀p q r,C.cat p q=some r→C.len r=C.len p+C.len q∧C.esz r=C.esz p∧C.bys r=C.bys p∧C.esz q=C.esz p ∧
    (∀i,i < C.len p→C.elem r i=C.elem p i)∧(∀i,i < C.len q→C.elem r (C.len p+i)=C.elem q i)
  cut:∀p a n,a+n≤C.len p→C.len (C.cut p a n)=n∧C.esz (C.cut p a n)=C.esz p∧C.bys (C.cut p a n)=C.bys p∧∀i,i < n→C.elem (C.cut p a n) i=C.elem p (a+i)
  set:∀p i cs q,i < C.len p→C.set p i cs=some q→C.len q=C.len p∧C.esz q=C.esz p∧C.bys q=C.bys p∧(∀j,j≠i→C.elem q j=C.elem p j) ∧
    cs.length=C.esz p∧∀(j:Nat) d d',cs[j]?=some d→(C.elem q i)[j]?=some d'→Dle C d d'
  bytes:∀p l,C.bytes p=some l→C.len p=l.length∧C.esz p=1∧∀i (h:i < l.length),C.elem p i=[.int .u8 l[i].toNat]
  ofBytes:∀t l p,C.ofBytes t l=some p→C.bytes p=some l∧C.bys p=1
  rep:∀t n p,C.rep t n=some p→C.len p=n∧C.esz p=1∧((C.bys p=8∧∀i,i < n→C.elem p i=[.int .i64 0])∨(C.bys p=1∧∀i,i < n→C.elem p i=[.bool false]))
  memp:∀t p,C.memp t=some p→C.len p=0
  mkclo:∀p i,i < C.len p→closed (C.mkey p i)=true
  mvclo:∀p i,i < C.len p→closed (C.mval p i)=true
  mget:∀p k v b,C.mget p k=some (v,b)→(∀i,i < C.len p→shp (C.mkey p i)=shp k)∧closed v=true ∧
    (b=true→∃i,i < C.len p∧C.mkey p i=k∧C.mval p i=v)∧(b=false→(∀i,i < C.len p→C.mkey p i≠k)∧v=C.mzero p)
  mput:∀p k v q,C.mput p k v=some q→(∀i,i < C.len p→shp (C.mkey p i)=shp k)∧closed k=true ∧
    ((∃i,i < C.len p∧C.mkey p i=k∧C.len q=C.len p∧(∀j,j < C.len p→C.mkey q j=C.mkey p j∧(j≠i→C.mval q j=C.mval p j))∧DleV C v (C.mval q i)) ∨
     ((∀i,i < C.len p→C.mkey p i≠k)∧C.len q=C.len p+1∧(∀j,j < C.len p→C.mkey q j=C.mkey p j∧C.mval q j=C.mval p j)∧C.mkey q (C.len p)=k∧DleV C v (C.mval q (C.len p))))
theorem RD.le {C:Pay α} {cx:Cx α} {v:Value} {d d':D α} (h:RD C cx v d) (hl:Dle C d d'):RD C cx v d':=by
  induction hl generalizing v with
  | same=>exact h
  | vac _ _ hv=>exact absurd h (hv _ _)
  | nil p h0=>cases h;exact .pl0 _ _ _ _ h0 trivial
  | any p k =>
    cases h with
    | pl0 a c _ _ hl hk=>exact .pl0 _ _ _ _ hl trivial
    | pl b off n c _ _ vs hn hc hb hk hav hcell h1 hrd=>exact .pl b off n c p .any vs hn hc hb trivial hav hcell h1 hrd
  | ref cs ds hl hle ih =>
    cases h with
    | ref b off _ vs hav hcell h1 hrd =>
      have hg:∀(i:Nat) c,ds[i]?=some c→∃c',cs[i]?=some c':=fun i c hc=>⟨cs[i]'(by rw [hl];exact (List.getElem?_eq_some_iff.1 hc).1),List.getElem?_eq_getElem _⟩
      refine .ref b off _ vs (fun hne=>hav fun e=>hne (List.eq_nil_of_length_eq_zero (by rw [←hl,e];rfl))) (fun i c hc=>?_) (fun i c hc=>?_) fun i c hc=>?_
      · obtain ⟨c',hc'⟩:=hg i c hc
        exact hcell i c' hc'
      · obtain ⟨c',hc'⟩:=hg i c hc
        exact h1 i c' hc'
      · obtain ⟨c',hc'⟩:=hg i c hc
        exact ih i c' c hc' hc (hrd i c' hc')
theorem RD.leV {C:Pay α} {cx:Cx α} {v:Value} {d d':D α} (h:RD C cx v d) (hl:DleV C d d'):RD C cx v d':=by
  cases hl with
  | one hl=>exact h.le hl
  | agg cs ds hl hd =>
    cases h with
    | agg vs _ hs h1 hr =>
      refine .agg vs ds (hs.trans hl) h1 fun i v c hv hc=>?_
      have hlt:i < cs.length:=by rw [hl];exact (List.getElem?_eq_some_iff.1 hc).1
      exact (hr i v cs[i] hv (by simp [hlt])).le (hd i _ c (by simp [hlt]) hc)
structure CxLe (C:Pay α) (ns:Nat→Bool) (cx cx':Cx α):Prop where
  cell:∀(b:Nat) ob,¬ cx.av b→cx.w.heap[b]?=some ob→cx'.w.heap[b]?=some ob
  av:∀(b:Nat) ob,cx.w.heap[b]?=some ob→¬ cx.av b→¬ cx'.av b
  bx:∀o b,ns o=false→cx.bx o=some b→cx'.bx o=some b
  ar:∀o b p,ns o=false→cx.ar o=some (b,p)→∃q,cx'.ar o=some (b,q)∧C.len q=C.len p∧C.esz q=C.esz p
  size:∀(b:Nat) cells T fz,cx.w.heap[b]?=some (.cells cells T fz)→∃cells' T' fz',cx'.w.heap[b]?=some (.cells cells' T' fz')∧cells'.size=cells.size
theorem cell_some {w:World} {b off:Nat} {v:Value} (h:w.cell? ⟨b,off,none⟩=some v):∃ob,w.heap[b]?=some ob:=by
  unfold World.cell? at h
  revert h
  cases hb:w.heap[b]? with
  | none=>simp
  | some ob=>intro _;exact ⟨ob,rfl⟩
theorem cell_of_heap {w w':World} {b off:Nat} (h:w'.heap[b]?=w.heap[b]?):w'.cell? ⟨b,off,none⟩=w.cell? ⟨b,off,none⟩:=by
  unfold World.cell?;simp only;rw [h]
theorem CxLe.cells {C:Pay α} {ns:Nat→Bool} {cx cx':Cx α} (h:CxLe C ns cx cx') {b off:Nat} {v:Value} (hav:¬ cx.av b) (hc:cx.w.cell? ⟨b,off,none⟩=some v) :
    cx'.w.cell? ⟨b,off,none⟩=some v:=by
  obtain ⟨ob,hb⟩:=cell_some hc
  rw [cell_of_heap (w:=cx.w)];exact hc
  rw [hb];exact h.cell b ob hav hb
theorem killL_get (ns:Nat→Bool):∀(cs:List (D α)) (i:Nat),(killL ns cs)[i]?=(cs[i]?).map (kill ns)
  | [],i=>by simp [killL]
  | d::r,0=>by simp [killL]
  | d::r,i+1=>by simp [killL,killL_get ns r i]
theorem killL_length (ns:Nat→Bool):∀(cs:List (D α)),(killL ns cs).length=cs.length
  | []=>by simp [killL]
  | d::r=>by simp [killL,killL_length ns r]
mutual
theorem kill_closed (ns:Nat→Bool):∀(d:D α),closed d=true→kill ns d=d
  | .bool _,_ | .int _ _,_ | .str _,_ | .nilP,_ | .nilS,_ | .nilF,_ | .nilI,_ | .nilM,_ | .lit _,_ | .pl _ _,_ | .mr _,_ | .ifa,_ | .mref _ _,_ | .bad,_ | .obB _ _,_ | .obA _ _,_ | .obM _ _,_ | .env _ _,_=>by simp [kill]
  | .arr _,h | .ptr _ _,h | .epr _ _ _,h | .mp _,h | .gd _ _ _,h=>by simp [closed] at h
  | .agg cs,h=>by simp only [closed] at h;simp [kill,killL_closed ns cs h]
  | .tup cs,h=>by simp only [closed] at h;simp [kill,killL_closed ns cs h]
  | .ref cs,h=>by simp only [closed] at h;simp [kill,killL_closed ns cs h]
  | .fn f cs,h=>by simp only [closed] at h;simp [kill,killL_closed ns cs h]
  | .ifc t d,h=>by simp only [closed] at h;simp [kill,kill_closed ns d h]
  | .ow k d,h=>by simp only [closed] at h;simp [kill,kill_closed ns d h]
theorem killL_closed (ns:Nat→Bool):∀(cs:List (D α)),closedL cs=true→killL ns cs=cs
  | [],_=>by simp [killL]
  | d::r,h=>by
    simp only [closedL,Bool.and_eq_true] at h
    simp [killL,kill_closed ns d h.1,killL_closed ns r h.2]
end
mutual
theorem kill_none:∀(d:D α),kill (fun _=>false) d=d
  | .bool _ | .int _ _ | .str _ | .nilP | .nilS | .nilF | .nilI | .nilM | .lit _ | .pl _ _ | .mr _ | .ifa | .mref _ _ | .bad | .obB _ _ | .obA _ _ | .obM _ _ | .env _ _=>by simp [kill]
  | .arr _ | .ptr _ _ | .epr _ _ _ | .mp _=>by simp [kill]
  | .gd ks t d=>by simp [kill,kill_none d]
  | .agg cs=>by simp [kill,killL_none cs]
  | .tup cs=>by simp [kill,killL_none cs]
  | .ref cs=>by simp [kill,killL_none cs]
  | .fn f cs=>by simp [kill,killL_none cs]
  | .ifc t d=>by simp [kill,kill_none d]
  | .ow k d=>by simp [kill,kill_none d]
theorem killL_none:∀(cs:List (D α)),killL (fun _=>false) cs=cs
  | []=>by simp [killL]
  | d::r=>by simp [killL,kill_none d,killL_none r]
end
theorem RD.kill {C:Pay α} (hC:PayOk C) {ns:Nat→Bool} {cx cx':Cx α} (hle:CxLe C ns cx cx') {v:Value} {d:D α} (h:RD C cx v d):RD C cx' v (kill ns d):=by
  induction h with
  | bool b=>exact .bool b
  | int k n h=>exact .int k n h
  | str s l h hl=>exact .str s l h hl
  | nilP=>exact .nilP
  | nilS=>exact .nilS
  | nilF=>exact .nilF
  | nilI=>exact .nilI
  | nilM=>exact .nilM
  | lit v=>exact .lit v
  | agg vs cs hs h1 h ih =>
    refine .agg vs _ (by rw [killL_length];exact hs) h1 fun i v c hv hc=>?_
    rw [killL_get] at hc
    obtain ⟨c',hc',rfl⟩:=Option.map_eq_some_iff.1 hc
    exact ih i v c' hv hc'
  | tup vs cs hs h ih =>
    refine .tup vs _ (by rw [killL_length];exact hs) fun i v c hv hc=>?_
    rw [killL_get] at hc
    obtain ⟨c',hc',rfl⟩:=Option.map_eq_some_iff.1 hc
    exact ih i v c' hv hc'
  | pl0 a c p k hl hk hsp=>exact .pl0 a c p k hl hk hsp
  | pl b off n c p k vs hn hc hb hk hav hcell h1 hrd hsp ih =>
    have hgo:∀ob,cx.w.heap[b]?=some ob→RD C cx' (.slice (some ⟨b,off,none⟩) n c) (.pl p k):=by
      intro ob hob
      refine .pl b off n c p k vs hn hc hb hk (hle.av b ob hob hav) (fun i j d hi hd=>hle.cells hav (hcell i j d hi hd)) h1 (fun i j d hi hd=>?_) ?_
      · have:=ih i j d hi hd
        rwa [kill_closed ns d (hC.clo p i d (List.mem_of_getElem? hd))] at this
      · cases k with
        | spare l=>exact ⟨hsp.1,hsp.2.1,hsp.2.2.1,fun i h=>hle.cells hav (hsp.2.2.2 i h)⟩
        | _=>exact True.intro
    by_cases h0:0 < n
    case neg =>
      have:n=0:=by omega
      subst this
      cases hs':isSp k with
      | false=>exact .pl0 _ _ _ _ hn.symm hk hs'
      | true =>
        unfold isSp at hs'
        split at hs'
        · rename_i x r
          obtain ⟨ob,hob⟩:=cell_some (hsp.2.2.2 0 (by simp))
          exact hgo ob hob
        · simp at hs'
    have hel:0 < (C.elem p 0).length:=by rw [hC.elen p 0 (by omega)];exact hC.pos p
    have h00:=hcell 0 0 (C.elem p 0)[0] h0 (by simp [hel])
    obtain ⟨ob,hob⟩:=cell_some h00
    exact hgo ob hob
  | arrO o b p n c ho hn hc hsz =>
    simp only [Eng.kill]
    cases hns:ns o with
    | true=>exact .bad _
    | false =>
      obtain ⟨cells,T,fz,hh,hs⟩:=hsz
      obtain ⟨cells',T',fz',hh',hs'⟩:=hle.size b cells T fz hh
      obtain ⟨q,hq,hl,hz⟩:=hle.ar o _ _ hns ho
      exact .arrO o b q n c hq (by omega) hc ⟨cells',T',fz',hh',by rw [hz];omega⟩
  | arrN o p a ho hn =>
    simp only [Eng.kill]
    cases hns:ns o with
    | true=>exact .bad _
    | false =>
      obtain ⟨q,hq,hl,hz⟩:=hle.ar o _ _ hns ho
      exact .arrN o q a hq (by omega)
  | ptr o off b ho =>
    simp only [Eng.kill]
    cases hns:ns o with
    | true=>exact .bad _
    | false=>exact .ptr o off b (hle.bx o _ hns ho)
  | epr o i off b p ho hi =>
    simp only [Eng.kill]
    cases hns:ns o with
    | true=>exact .bad _
    | false =>
      obtain ⟨q,hq,hl,hz⟩:=hle.ar o _ _ hns ho
      show RD C cx' (.pointer (some ⟨b,i * C.esz p+off,none⟩)) (.epr o i off)
      rw [←hz]
      exact .epr o i off b q hq (by omega)
  | mp o b ho =>
    simp only [Eng.kill]
    cases hns:ns o with
    | true=>exact .bad _
    | false=>exact .mp o b (hle.bx o _ hns ho)
  | mr b clock es p hav hh hs hd hk hv ihk ihv =>
    have hlt:∀(i:Nat) e,es[i]?=some e→i < C.len p:=by
      intro i e he
      rw [←hs.size]
      rcases Nat.lt_or_ge i es.size with h | h
      · exact h
      · simp [Array.getElem?_eq_none h] at he
    refine .mr b clock es p (hle.av b _ hh hav) (hle.cell b _ hav hh) hs hd (fun i e he=>?_) fun i e he=>?_
    · have:=ihk i e he
      rwa [kill_closed ns _ (hC.mkclo p i (hlt i e he))] at this
    · have:=ihv i e he
      rwa [kill_closed ns _ (hC.mvclo p i (hlt i e he))] at this
  | ref b off cs vs hav hcell h1 hrd ih =>
    cases hcs:cs with
    | nil =>
      simp only [Eng.kill,killL]
      exact .ref b off [] vs (by simp) (by simp) (by simp) (by simp)
    | cons c0 r =>
      have h00:=hcell 0 c0 (by simp [hcs])
      obtain ⟨ob,hob⟩:=cell_some h00
      subst hcs
      refine .ref b off _ vs (fun _=>hle.av b ob hob (hav (by simp))) (fun i c hc=>?_) (fun i c hc=>?_) fun i c hc=>?_
      all_goals
        rw [killL_get] at hc
        obtain ⟨c',hc',rfl⟩:=Option.map_eq_some_iff.1 hc
      · exact hle.cells (hav (by simp)) (hcell i c' hc')
      · exact h1 i c' hc'
      · exact ih i c' hc'
  | fn f f' a b vs cs hs h hm ih =>
    refine .fn f f' a b vs _ (by rw [killL_length];exact hs) (fun i v c hv hc=>?_) hm
    rw [killL_get] at hc
    obtain ⟨c',hc',rfl⟩:=Option.map_eq_some_iff.1 hc
    exact ih i v c' hv hc'
  | ifc t v d h ih=>exact .ifc t v _ ih
  | ifa t v=>exact .ifa t v
  | mrefN cs=>exact .mrefN cs
  | mrefS v cs hc h ih =>
    refine .mrefS v cs hc ?_
    simpa only [Eng.kill,killL_closed ns cs hc] using ih
  | ow k v d h ih=>exact .ow k v _ ih
  | bad v=>exact .bad v
end Go.Eng
namespace Go.Eng
open Go.RowKit
variable {α:Type}
structure Gh where
  w0:World
  av0:Nat→Prop
  rho:Nat→Option Nat
  lent:Nat→Prop
  top:Nat→Option Nat
structure BelowD (δ:Bool) (B:Nat) (w w':World):Prop where
  os:w'.os=w.os
  tape:w'.tape=w.tape
  output:w'.output=w.output
  size:w.heap.size≤w'.heap.size
  block:∀k,k < B→w'.heap[k]?=w.heap[k]?
  drawn:δ=true→w.drawn≤w'.drawn
theorem BelowD.toB {δ:Bool} {B:Nat} {w w':World} (h:BelowD δ B w w'):RowKit.Below B w w':=⟨h.os,h.tape,h.output,h.size,h.block⟩
theorem BelowD.ofB {δ:Bool} {B:Nat} {w w':World} (h:RowKit.Below B w w') (hd:δ=true→w.drawn≤w'.drawn):BelowD δ B w w':=⟨h.os,h.tape,h.output,h.size,h.block,hd⟩
theorem BelowD.refl {δ:Bool} (B:Nat) (w:World):BelowD δ B w w:=.ofB (.refl B w) fun _=>Nat.le_refl _
theorem BelowD.trans {δ:Bool} {B:Nat} {a b c:World} (h:BelowD δ B a b) (k:BelowD δ B b c):BelowD δ B a c:=.ofB (h.toB.trans k.toB) fun hd=>Nat.le_trans (h.drawn hd) (k.drawn hd)
theorem BelowD.mono {δ:Bool} {B B':Nat} {w w':World} (h:BelowD δ B w w') (hB:B'≤B):BelowD δ B' w w':=.ofB (h.toB.mono hB) h.drawn
theorem BelowD.drew {δ:Bool} {B:Nat} {a w:World} (h:BelowD δ B a w):BelowD δ B a w.drew:=.ofB h.toB.drew fun hd=>Nat.le_trans (h.drawn hd) (Nat.le_succ _)
theorem BelowD.alloc {δ:Bool} {B:Nat} {a w:World} (h:BelowD δ B a w) (hB:B≤w.heap.size) (o:Obj):BelowD δ B a (w.alloc o):=.ofB (h.toB.alloc hB o) h.drawn
theorem BelowD.frame {δ:Bool} {W w':World} (h:BelowD δ W.heap.size W w') (may:MemPlace→Prop):W.keptBut w' may:=h.toB.frame may
theorem BelowD.same {δ:Bool} {W w':World} (h:BelowD δ W.heap.size W w') {p:MemPlace} (hp:p.block < W.heap.size):W.sameAt w' p:=h.toB.same hp
structure BelowL (δ:Bool) (B:Nat) (L:Nat→Prop) (w w':World):Prop where
  os:w'.os=w.os
  tape:w'.tape=w.tape
  output:w'.output=w.output
  size:w.heap.size≤w'.heap.size
  block:∀k,k < B→¬ L k→w'.heap[k]?=w.heap[k]?
  row:∀(k:Nat) cells T fz,k < B→w.heap[k]?=some (.cells cells T fz)→∃cells' T' fz',w'.heap[k]?=some (.cells cells' T' fz')∧cells'.size=cells.size
  drawn:δ=true→w.drawn≤w'.drawn
theorem BelowL.trans {δ:Bool} {B:Nat} {L:Nat→Prop} {a b c:World} (h:BelowL δ B L a b) (k:BelowL δ B L b c):BelowL δ B L a c :=
  ⟨k.os.trans h.os,k.tape.trans h.tape,k.output.trans h.output,Nat.le_trans h.size k.size,fun i hi hL=>(k.block i hi hL).trans (h.block i hi hL),fun i cells T fz hi hc=>by
    obtain ⟨c1,T1,f1,h1,h2⟩:=h.row i cells T fz hi hc
    obtain ⟨c2,T2,f2,h3,h4⟩:=k.row i c1 T1 f1 hi h1
    exact ⟨c2,T2,f2,h3,h4.trans h2⟩,fun hd=>Nat.le_trans (h.drawn hd) (k.drawn hd)⟩
theorem toL {δ:Bool} {B:Nat} {L:Nat→Prop} {w w':World} (h:BelowD δ B w w'):BelowL δ B L w w' :=
  ⟨h.os,h.tape,h.output,h.size,fun k hk _=>h.block k hk,fun k cells T fz hk hc=>⟨cells,T,fz,by rw [h.block k hk];exact hc,rfl⟩,h.drawn⟩
theorem BelowL.none {δ:Bool} {B:Nat} {w w':World} (h:BelowL δ B (fun _=>False) w w'):BelowD δ B w w':=⟨h.os,h.tape,h.output,h.size,fun k hk=>h.block k hk (fun h=>h),h.drawn⟩
def Ob.fz:Ob α→Bool
  | .box f _=>f
  | .arr f _=>f
  | .map f _=>f
def cxOf (g:Gh) (hs:Obs α) (w:World):Cx α where
  w:=w
  av:=fun b=>g.av0 b∨∃o ob,look hs o=some ob∧ob.fz=false∧g.rho o=some b
  bx:=fun o=>match look hs o with | some (.box _ _)=>g.rho o | some (.map _ _)=>g.rho o | _=>none
  ar:=fun o=>match look hs o with | some (.arr _ p)=>some (g.rho o,p) | _=>none
def cx0 (w:World) (av:Nat→Prop):Cx α where
  w:=w
  av:=av
  bx:=fun _=>none
  ar:=fun _=>none
def ObRel (C:Pay α) (cx:Cx α) (b:Option Nat):Ob α→Prop
  | .box _ cs=>∃b' cells T,b=some b'∧cx.w.heap[b']?=some (.cells cells T (0,0))∧cells.size=cs.length ∧
      (∀(i:Nat) v,cells[i]?=some v→v.oneCell'=true)∧∀(i:Nat) v c,cells[i]?=some v→cs[i]?=some c→RD C cx v c
  | .arr _ p=>match b with
    | none=>C.len p=0
    | some b'=>∃cells T,cx.w.heap[b']?=some (.cells cells T (0,0))∧C.len p * C.esz p≤cells.size∧C.len p * C.bys p≤big ∧
      (∀(i:Nat) v,cells[i]?=some v→v.oneCell'=true) ∧
      ∀(i j:Nat) v d,i < C.len p→cells[i * C.esz p+j]?=some v→(C.elem p i)[j]?=some d→RD C cx v d
  | .map _ p=>∃b' es clock,b=some b'∧cx.w.heap[b']?=some (.map es clock)∧Szd es clock (C.len p) ∧
      (∀i j,i < C.len p→j < C.len p→C.mkey p i=C.mkey p j→i=j) ∧
      (∀(i:Nat) e,es[i]?=some e→RD C cx e.key (C.mkey p i))∧∀(i:Nat) e,es[i]?=some e→RD C cx e.val (C.mval p i)
def holds (tmps:Array Value) (ks:List (Nat×Bool)):Prop:=∀k∈ks,tmps[k.1]?=some (.bool k.2)
def RG (C:Pay α) (cx:Cx α) (tmps:Array Value) (v:Value):D α→Prop
  | .gd ks t d=>(holds tmps ks→t=true∧RD C cx v d)∧(¬ holds tmps ks→t=false∧v=undef)
  | d=>RD C cx v d
def GSz (w:World) (i n:Nat):Prop:=∃cells T fz,w.heap[i]?=some (.cells cells T fz)∧cells.size=n
structure Sim (X:Ctx α) (g:Gh) (tm:List (D α)) (hs:Obs α) (a:Act) (w:World):Prop where
  size:a.tmps.size=tm.length
  tm:∀t,RG X.C (cxOf g hs w) a.tmps (a.tmps.getD t undef) (getT tm t)
  dfr:a.defers=[]
  obs:∀o ob,look hs o=some ob→ObRel X.C (cxOf g hs w) (g.rho o) ob
  inj:∀o o' ob ob' b,look hs o=some ob→look hs o'=some ob'→g.rho o=some b→g.rho o'=some b→o=o'
  own:∀o ob b,look hs o=some ob→g.rho o=some b→(g.w0.heap.size≤b∨g.lent b)∧b < w.heap.size
  below:BelowL X.C.dr g.w0.heap.size g.lent g.w0 w
  av0:∀b,g.av0 b→b < g.w0.heap.size
  lav:∀b,g.lent b→b < g.w0.heap.size∧¬ g.av0 b
  top:∀c b,g.top c=some b→Nat.blt c 50000=false∧Nat.blt c 100000=true∧∀ob,look hs c=some ob→g.rho c=some b∧∀f p,ob≠.arr f p
  glob:∀i cs,X.glob i=some cs→RD X.C (cx0 g.w0 (fun b=>g.av0 b∨g.lent b)) (.pointer (some ⟨i,0,none⟩)) (.ref cs)∧GSz g.w0 i cs.length
theorem Sim.not0 {X:Ctx α} {g:Gh} {tm:List (D α)} {hs:Obs α} {a:Act} {w:World} (h:Sim X g tm hs a w) {o:Nat} {ob:Ob α} {b:Nat} (ho:look hs o=some ob) (hr:g.rho o=some b) (h0:g.av0 b):False:=by
  have h1:=h.av0 b h0
  rcases (h.own o ob b ho hr).1 with h2 | h2
  · omega
  · exact (h.lav b h2).2 h0
theorem RG.kill {C:Pay α} (hC:PayOk C) {ns:Nat→Bool} {cx cx':Cx α} (hle:CxLe C ns cx cx') {tmps:Array Value} {v:Value} {d:D α} (h:RG C cx tmps v d) :
    RG C cx' tmps v (kill ns d):=by
  cases d
  case gd ks t d=>exact ⟨fun hk=>⟨(h.1 hk).1,RD.kill hC hle (h.1 hk).2⟩,h.2⟩
  case arr o=>have:=RD.kill hC hle (show RD C cx v _ from h);simp only [Eng.kill] at this ⊢;revert this;cases ns o<;>exact id
  case ptr o f=>have:=RD.kill hC hle (show RD C cx v _ from h);simp only [Eng.kill] at this ⊢;revert this;cases ns o<;>exact id
  case epr o i f=>have:=RD.kill hC hle (show RD C cx v _ from h);simp only [Eng.kill] at this ⊢;revert this;cases ns o<;>exact id
  case mp o=>have:=RD.kill hC hle (show RD C cx v _ from h);simp only [Eng.kill] at this ⊢;revert this;cases ns o<;>exact id
  all_goals exact RD.kill hC hle h
theorem RD.grow {C:Pay α} (hC:PayOk C) {cx cx':Cx α} (hle:CxLe C (fun _=>false) cx cx') {v:Value} {d:D α} (h:RD C cx v d):RD C cx' v d:=by
  have:=RD.kill hC hle h
  rwa [kill_none] at this
theorem RD.closedTo {C:Pay α} (hC:PayOk C) {cx cx':Cx α} (hle:CxLe C (fun _=>true) cx cx') {v:Value} {d:D α} (hd:closed d=true) (h:RD C cx v d):RD C cx' v d:=by
  have:=RD.kill hC hle h
  rwa [kill_closed _ d hd] at this
theorem getT_set (tm:List (D α)) (i t:Nat) (x:D α):getT (setT tm i x) t=if i=t∧t < tm.length then x else getT tm t:=by
  induction tm generalizing i t with
  | nil=>simp [setT,getT]
  | cons d r ih =>
    cases i with
    | zero=>cases t<;>simp [setT,getT]
    | succ i =>
      cases t with
      | zero=>simp [setT,getT]
      | succ t=>simp [setT,getT,ih]
theorem setT_length (tm:List (D α)) (i:Nat) (x:D α):(setT tm i x).length=tm.length:=by
  induction tm generalizing i with
  | nil=>simp [setT]
  | cons d r ih=>cases i<;>simp [setT,ih]
theorem getT_map (f:D α→D α) (hf:f .bad=.bad) (tm:List (D α)) (t:Nat):getT (tm.map f) t=f (getT tm t):=by
  induction tm generalizing t with
  | nil=>simp [getT,hf]
  | cons d r ih=>cases t<;>simp [getT,ih]
theorem getT_out (tm:List (D α)) (t:Nat) (h:tm.length≤t):getT tm t=.bad:=by
  induction tm generalizing t with
  | nil=>rfl
  | cons d r ih =>
    cases t with
    | zero=>simp at h
    | succ t=>simp [getT];exact ih t (by simpa using h)
theorem cxLe_grow (C:Pay α) {g:Gh} {hs:Obs α} {w w':World} (h:BelowD C.dr w.heap.size w w') (_hown:∀o ob b,look hs o=some ob→g.rho o=some b→b < w.heap.size) :
    CxLe C (fun _=>false) (cxOf g hs w) (cxOf g hs w') where
  cell:=fun b ob _ hb=>by
    have hlt:b < w.heap.size:=by
      rcases Nat.lt_or_ge b w.heap.size with h | h
      · exact h
      · simp [cxOf,Array.getElem?_eq_none h] at hb
    simp only [cxOf] at hb ⊢
    rw [h.block b hlt];exact hb
  av:=fun b ob _ hav=>hav
  bx:=fun o b _ h=>h
  ar:=fun o b p _ h=>⟨p,h,rfl,rfl⟩
  size:=fun b cells T fz hb=>by
    have hlt:b < w.heap.size:=by
      rcases Nat.lt_or_ge b w.heap.size with h | h
      · exact h
      · simp [cxOf,Array.getElem?_eq_none h] at hb
    simp only [cxOf] at hb ⊢
    rw [h.block b hlt];exact ⟨cells,T,fz,hb,rfl⟩
theorem lt_of_heap {w:World} {b:Nat} {ob:Obj} (h:w.heap[b]?=some ob):b < w.heap.size:=by
  rcases Nat.lt_or_ge b w.heap.size with h' | h'
  · exact h'
  · simp [Array.getElem?_eq_none h'] at h
theorem ObRel.grow {C:Pay α} (hC:PayOk C) {ns:Nat→Bool} {cx cx':Cx α} (hle:CxLe C ns cx cx') {b:Option Nat} {ob:Ob α}
    (hh:∀b' ob',b=some b'→cx.w.heap[b']?=some ob'→cx'.w.heap[b']?=some ob') (h:ObRel C cx b ob):ObRel C cx' b (killOb ns ob):=by
  cases ob with
  | box fz cs =>
    obtain ⟨b',cells,T,rfl,hb,hs,h1,hr⟩:=h
    refine ⟨b',cells,T,rfl,hh b' _ rfl hb,by rw [killL_length];exact hs,h1,fun i v c hv hc=>?_⟩
    rw [killL_get] at hc
    obtain ⟨c',hc',rfl⟩:=Option.map_eq_some_iff.1 hc
    exact RD.kill hC hle (hr i v c' hv hc')
  | arr fz p =>
    cases b with
    | none=>exact h
    | some b' =>
      obtain ⟨cells,T,hb,hs,hbg,h1,hr⟩:=h
      refine ⟨cells,T,hh b' _ rfl hb,hs,hbg,h1,fun i j v d hi hv hd=>?_⟩
      have:=RD.kill hC hle (hr i j v d hi hv hd)
      rwa [kill_closed ns d (hC.clo p i d (List.mem_of_getElem? hd))] at this
  | map fz p =>
    obtain ⟨b',es,clock,rfl,hb,hs,hd,hk,hv⟩:=h
    have hlt:∀(i:Nat) e,es[i]?=some e→i < C.len p:=by
      intro i e he
      rw [←hs.size]
      rcases Nat.lt_or_ge i es.size with h | h
      · exact h
      · simp [Array.getElem?_eq_none h] at he
    refine ⟨b',es,clock,rfl,hh b' _ rfl hb,hs,hd,fun i e he=>?_,fun i e he=>?_⟩
    · have:=RD.kill hC hle (hk i e he)
      rwa [kill_closed ns _ (hC.mkclo p i (hlt i e he))] at this
    · have:=RD.kill hC hle (hv i e he)
      rwa [kill_closed ns _ (hC.mvclo p i (hlt i e he))] at this
theorem killOb_none (ob:Ob α):killOb (fun _=>false) ob=ob:=by
  cases ob<;>simp [killOb,killL_none]
theorem Sim.grow {X:Ctx α} (hC:PayOk X.C) {g:Gh} {tm:List (D α)} {hs:Obs α} {a:Act} {w w':World} (h:Sim X g tm hs a w) (hb:BelowD X.C.dr w.heap.size w w') :
    Sim X g tm hs a w':=by
  have hle:=cxLe_grow X.C (g:=g) (hs:=hs) hb (fun o ob b ho hr=>(h.own o ob b ho hr).2)
  refine ⟨h.size,fun t=>?_,h.dfr,fun o ob ho=>?_,h.inj,fun o ob b ho hr=>?_,?_,h.av0,h.lav,h.top,h.glob⟩
  · have:=RG.kill hC hle (h.tm t)
    rwa [kill_none] at this
  · have:=ObRel.grow hC hle (b:=g.rho o) (fun b' ob' hr hb'=>by
      show w'.heap[b']?=_
      rw [hb.block b' (h.own o ob b' ho hr).2];exact hb') (h.obs o ob ho)
    rwa [killOb_none] at this
  · have:=h.own o ob b ho hr
    exact ⟨this.1,Nat.lt_of_lt_of_le this.2 hb.size⟩
  · exact h.below.trans (toL (hb.mono (by have:=h.below.size;omega)))
theorem holds_all {tmps:Array Value} {ks ks':List (Nat×Bool)} (h:holds tmps ks) (hs:ks'.all (memK ks)=true):holds tmps ks':=by
  intro k hk
  have h1:=List.all_eq_true.1 hs k hk
  have h2:∀l:List (Nat×Bool),memK l k=true→k∈l:=by
    intro l
    induction l with
    | nil=>simp [memK]
    | cons x r ih =>
      obtain ⟨a,b⟩:=x
      simp only [memK,Bool.or_eq_true,Bool.and_eq_true,beq_iff_eq]
      rintro (⟨h1,rfl⟩ | h)
      · obtain rfl:=Nat.eq_of_beq_eq_true h1
        exact List.mem_cons_self
      · exact List.mem_cons_of_mem _ (ih h)
  exact h k (h2 ks h1)
theorem RG.strip {C:Pay α} {cx:Cx α} {tmps:Array Value} {v:Value} {d:D α} {ks:List (Nat×Bool)} (hk:holds tmps ks) (h:RG C cx tmps v d) :
    RD C cx v (strip ks d):=by
  cases d
  case gd ks' t d =>
    simp only [Eng.strip]
    cases hs:ks'.all (memK ks) with
    | true=>exact (h.1 (holds_all hk hs)).2
    | false=>exact .bad _
  all_goals exact h
theorem inR_of {k:IntKind} {n:Int} (h:inR k n=true):lo k≤n∧n≤hi k:=by
  simpa [inR] using h
theorem ofV1_sound (C:Pay α) (cx:Cx α) (v:Value):RD C cx v (ofV1 v):=by
  unfold ofV1
  split
  · exact .bool _
  · cases h:inR _ _ with
    | true=>exact .int _ _ h
    | false=>exact .bad _
  · cases h:Nat.ble _ _ with
    | true=>exact .str _ _ rfl (Nat.le_of_ble_eq_true h)
    | false=>exact .bad _
  · exact .nilP
  · exact .nilS
  · exact .nilF
  · exact .nilI
  · exact .nilM
  · exact .bad _
theorem ofV_sound (C:Pay α) (cx:Cx α) (v:Value):RD C cx v (ofV v):=by
  unfold ofV
  split
  · rename_i cs
    cases hv:cs.toList.all Value.oneCell' with
    | false=>exact .bad _
    | true =>
    refine .agg _ _ (by simp) (fun i v h=>?_) (fun i v c h hc=>?_)
    · simp only [List.all_eq_true] at hv
      exact hv v (Array.mem_toList_iff.2 (Array.mem_of_getElem? h))
    · simp only [List.getElem?_map,Array.getElem?_toList,h,Option.map_some,Option.some.injEq] at hc
      subst hc
      exact ofV1_sound C cx v
  · exact ofV1_sound C cx _
end Go.Eng
