/-
  THE REFERENCES OF AN EXPRESSION, by the program: refs.Of.
-/
import Derived.Test.YtpjfilgmfbdfoaaGreatSortK
import Derived.Test.YtpjfilgmfbdfoaaGreatShelf
import Derived.Test.YtpjfilgmfbdfoaaGreatWalkP
namespace Go.Proofs.YtpjfilgmfbdfoaaGreat
open Go.Eng Go.RowKit Go.Sort Go.Shelf Go.Maps Go.Proofs
open Go.WideElems (Fit rd rg rd_key rd_val rg_of rd_mk)
set_option maxRecDepth 100000
theorem K2_vK {x:K2} {k:KA} (h:x.v=vK k):x.cs=encK k:=by
  simp only [K2.v,vK,Value.agg.injEq,Array.mk.injEq,List.cons.injEq,and_true] at h
  obtain ⟨h0,h1⟩:=h
  simp [K2.cs,encK,h0,h1]
def gK:Value→Tw
  | .agg l=>match l.toList with
    | [.string a,.string b]=>(a.data.toList,b.data.toList)
    | _=>default
  | _=>default
theorem gK_vK (k:KA):gK (vK k)=k.1:=rfl
theorem keys_back:∀{ss:List K2} {l:List KA},(∀x∈ss,∃k:KA,x.v=vK k)→∃ks:List KA,ss.map K2.v=ks.map vK∧rowOf ss=ks.flatMap encK∧ss.length=ks.length
  | [],_,_=>⟨[],rfl,rfl,rfl⟩
  | x::r,l,h=>by
    obtain ⟨k,hk⟩:=h x List.mem_cons_self
    obtain ⟨ks,h1,h2,h3⟩:=keys_back (l:=l) (ss:=r) fun y hy=>h y (List.mem_cons_of_mem _ hy)
    refine ⟨k::ks,by simp [hk,h1],?_,by simp [h3]⟩
    simp only [rowOf,List.flatMap_cons] at h2 ⊢
    rw [h2,K2_vK hk]
theorem flat_get (ks:List KA) (j:Nat) (h:j < ks.length * 2):(ks.flatMap encK)[j]?=some ((flatK encK 2 ks.toArray)[j]!):=by
  rw [get_flatK _ _ _ _ (by simpa using h)]
  induction ks generalizing j with
  | nil=>simp at h
  | cons k r ih =>
    rw [List.flatMap_cons]
    by_cases hj:j < 2
    · rw [List.getElem?_append_left (by simpa [encK] using hj),show j / 2=0 by omega,show j % 2=j by omega]
      simp only [List.getElem!_toArray,List.getElem!_cons_zero]
      rw [List.getElem?_eq_getElem (by simpa [encK] using hj),getElem!_pos _ _ (by simpa [encK] using hj)]
    · have hl:(encK k).length=2:=rfl
      rw [List.getElem?_append_right (by omega),hl,ih (j - 2) (by simp at h;omega)]
      obtain ⟨q,hq⟩:∃q,j / 2=q+1:=⟨j / 2 - 1,by omega⟩
      rw [show (j - 2) / 2=q by omega,show (j - 2) % 2=j % 2 by omega,hq]
      simp
theorem holds_of {w:World} {g:Nat} {cells:Array Value} {T:TypeId} (ks:List KA) (hh:w.heap[g]?=some (.cells cells T (0,0))) (ht:cells.toList.take (ks.length * 2)=ks.flatMap encK) (hc:ks.length * 2≤cells.size) :
    HoldsK encK 2 w g 0 ks.toArray:=by
  intro j hj
  have hj':j < ks.length * 2:=by simpa using hj
  refine ⟨?_,?_⟩
  · have h1:=flat_get ks j hj'
    rw [←ht,List.getElem?_take_of_lt hj'] at h1
    simp only [World.cell?,hh,Nat.zero_add,id]
    simpa using h1
  · simp [World.frozen?,hh]
theorem heap_sortWorldK {w:World} {g n k:Nat} {d:Array KA} {os:Array Obj} (hk:k≠g) (hl:k < w.heap.size):(sortWorldK encK 2 w g 0 n d os).heap[k]?=w.heap[k]?:=by
  unfold sortWorldK grow putRowK putRow mapBlock Sort.ahead
  simp only
  rw [Array.getElem?_append_left (by simpa using hl),Array.getElem?_modify,if_neg (by omega)]
set_option maxHeartbeats 2000000 in
theorem sorted_calls (Bm Bo b:Nat) (w:World) (hBm:Bm < w.heap.size) (K:Keyed Tryz.prog kT) (hm:w.cell? ⟨Bm,Bo,none⟩=some (.map (some b))) {es:Array MapEntry} {clock:Nat} (hb:w.heap[b]?=some (.map es clock))
    {R:Value→Option (DataW Unit×List MemPlace)} (Ft:Fit Tryz.prog kT R es clock) (hN:es.size * 32≤140737488355328) (kl:List KA) (hkl:es.toList.map (·.key)=kl.map vK) :
    Calls Tryz.prog 22 #[.func (.func 48) #[] #[.pointer (some ⟨Bm,Bo,none⟩)],.func (.func 24) #[] #[]] w fun e w' =>
      ∃(v:Value) (ks:List KA),e=.returned v∧ks.map (·.1)=sortK (kl.map (·.1))∧RowKit.Below w.heap.size w w' ∧
        ((ks=[]∧v=.slice none 0 0)∨∃g cap,v=.slice (some ⟨g,0,none⟩) ks.length cap∧ks.length≤cap∧w.heap.size≤g∧HoldsK encK 2 w' g 0 ks.toArray):=by
  have mixed:Tryz.prog.follows .mixedOrders=true:=by kernel_rfl
  have hgot:=callsIn_wide.1 (got Fence.wide 3 trivial trivial trivial rfl (by omega) Bm Bo b w hBm K hm hb Ft hN)
  have hlen:es.size=kl.length:=by
    have:=congrArg List.length hkl
    simpa using this
  have e48:∀args w,(callFunc 46 args).run Tryz.prog w=.ok (.enter 46 args) w:=enters_of Tryz.func46 (by kernel_rfl) rfl
  have e49:∀args w,(callFunc 47 args).run Tryz.prog w=.ok (.enter 47 args) w:=enters_of Tryz.func47 (by kernel_rfl) rfl
  have hsort:∀(v:Value) (ss:List K2) (w2:World),(ss.map K2.v).Perm (es.toList.map (·.key))→w2.ownsRow w.heap.size kT 2 v ss.length (rowOf ss)→(v=.slice none 0 0↔ss=[])→RowKit.Below w.heap.size w w2 →
      Calls Tryz.prog 47 #[v,.func (.func 24) #[] #[]] w2 fun e w'=>e=.returned (.tuple #[])∧∃ks:List KA,ks.map (·.1)=sortK (kl.map (·.1))∧RowKit.Below w.heap.size w w' ∧
        ((ks=[]∧v=.slice none 0 0)∨∃g cap,v=.slice (some ⟨g,0,none⟩) ks.length cap∧ks.length≤cap∧w.heap.size≤g∧HoldsK encK 2 w' g 0 ks.toArray):=by
    intro v ss w2 hp hown hnil hbel
    obtain ⟨ks,k1,k2,k3⟩:=keys_back (l:=kl) (ss:=ss) fun x hx=>by
      have:x.v∈es.toList.map (·.key):=hp.mem_iff.1 (List.mem_map_of_mem hx)
      rw [hkl,List.mem_map] at this
      obtain ⟨k,_,hk⟩:=this
      exact ⟨k,hk.symm⟩
    have hpk:(ks.map (·.1)).Perm (kl.map (·.1)):=by
      have h1:=hp.map gK
      rw [k1,hkl,List.map_map,List.map_map] at h1
      rwa [show (gK ∘ vK)=(fun k:KA=>k.1) from funext gK_vK] at h1
    obtain ⟨_,⟨rfl,hz⟩ | ⟨g,cap,cur,rfl,hg,hh,hc,hcm,hcs,ht⟩⟩:=hown
    · obtain rfl:=hnil.1 rfl
      obtain rfl:ks=[]:=List.length_eq_zero_iff.1 (by rw [←k3];rfl)
      refine (AnyF.slices_SortFunc_none (P:=Tryz.prog) (ρ:=Tryz.sortLr_ren) { Tryz.sortLr with } none 0 _ w2).mono ?_
      rintro e w' ⟨rfl,rfl⟩
      refine ⟨rfl,[],?_,hbel,.inl ⟨rfl,rfl⟩⟩
      rw [←sortK_perm hpk];simp [sortK]
    · have hne:ss≠[]:=fun e=>by have:=hnil.2 e;simp at this
      have hH:HoldsK encK 2 w2 g 0 ks.toArray:=holds_of ks hh (by rw [←k3,ht,k2]) (by rw [←k3,hcs];exact Nat.mul_le_mul_right _ hc)
      have hgl:g < w2.heap.size:=by
        rcases Nat.lt_or_ge g w2.heap.size with h | h
        · exact h
        · rw [Array.getElem?_eq_none h] at hh;simp at hh
      have hks:ks.length=kl.length:=by simpa using hpk.length_eq
      have:=AnyQ.slices_SortFunc_total Tryz.sortLr 2 Tryz.isAgg54 Tryz.sizeOf54 encK (fun _=>rfl) (fun x v hv=>by simp [encK,bS] at hv;rcases hv with rfl | rfl<;>rfl) cfK swoK 24 #[] g 0 cap ks.toArray w2 eg16 (cmp_lays g 0 _ w2) hH hgl (by simp;omega) totK
      rw [show ks.toArray.size=ss.length by simp [k3]] at this
      refine this.mono ?_
      rintro e w' ⟨rfl,n,os,rfl⟩
      have hsz:(ks.mergeSort fun x y=>!(ltOf cfK) y x).length=ks.length:=(List.mergeSort_perm _ _).length_eq
      refine ⟨rfl,ks.mergeSort fun x y=>!(ltOf cfK) y x,(sortA ks).trans (sortK_perm hpk),?_,.inr ⟨g,cap,by rw [hsz,k3],by rw [hsz,←k3];exact hc,hg,?_⟩⟩
      · refine hbel.trans ⟨rfl,rfl,rfl,?_,fun k hk=>?_⟩
        · exact size_sortWorldK_c encK 2 w2 g 0 n _ os
        · exact heap_sortWorldK (by omega) (by have:=hbel.size;omega)
      · exact holdsK_sortWorldK_c encK 2 w2 g 0 ks.toArray _ n os hH hgl (by simp [hsz])
  go_enter Tryz.func22,Tryz.ntmps22
  go_wp2_with (first | (go_at_call 46;refine hgot.mono ?_;rintro e w2 ⟨v,ss,rfl,h1,h2,h3,h4⟩) | (go_at_call 47;refine (hsort _ ss _ h1 h2 h3 h4).mono ?_;rintro e w3 ⟨rfl,ks,q1,q2,q3⟩))
  go_ret
  exact ⟨_,ks,rfl,q1,q2,q3⟩
end Go.Proofs.YtpjfilgmfbdfoaaGreat
namespace Go.Proofs.YtpjfilgmfbdfoaaGreat
open Go.Eng Go.RowKit Go.Sort Go.Shelf Go.Maps Go.Proofs
set_option maxRecDepth 100000
theorem keys_of {C:Pay Pl} {cx:Cx Pl}:∀(es:List MapEntry) (l:List (Tw×Unit)),es.length=l.length→(∀(i:Nat) e x,es[i]?=some e→l[i]?=some x→RD C cx e.key (.agg (cT x.1))) →
    ∃kl:List KA,es.map (·.key)=kl.map vK∧kl.map (·.1)=l.map (·.1)
  | [],[],_,_=>⟨[],rfl,rfl⟩
  | [],_::_,h,_=>by simp at h
  | _::_,[],h,_=>by simp at h
  | e::r,x::s,h,hr=>by
    obtain ⟨hk,he⟩:=vK_inv (hr 0 e x rfl rfl)
    obtain ⟨kl,h1,h2⟩:=keys_of r s (by simpa using h) fun i e x he hx=>hr (i+1) e x (by simpa using he) (by simpa using hx)
    exact ⟨⟨x.1,hk⟩::kl,by simp [he,h1],by simp [h2]⟩
def rf (x:Tw):RefR:=⟨x.1,x.2⟩
def shK:Bool×List KC:=(true,[.s,.s])
theorem shK_ok:keyOkD Tryz.prog kT shK=true:=by kernel_rfl
def pSorted:List (D Pl)→Option (Bool×D Pl)
  | [.fn 48 [.ref [.mr ⟨.map .two .unit,l⟩]],.fn 24 []]=>some (Nat.ble (l.length * 32) big,.pl (pRefs ((sortK (l.map (·.1))).map rf)) .any)
  | _=>none
theorem enc_get (x:KA) (j:Nat) (h:j < 2):(encK x)[j]?=some ((encK x)[j]!):=by
  have h':j < (encK x).length:=h
  rw [List.getElem?_eq_getElem h',getElem!_pos (encK x) j h']
theorem sorted_rd {cx:Cx Pl} {ks:List KA} {q:List Tw} {g cap:Nat} (hq:ks.map (·.1)=q) (hc:ks.length≤cap) (hb:ks.length * 32≤big) (hav:¬ cx.av g) (hH:HoldsK encK 2 cx.w g 0 ks.toArray) :
    RD X0.C cx (.slice (some ⟨g,0,none⟩) ks.length cap) (.pl (pRefs (q.map rf)) .any):=by
  subst hq
  have hel:∀(i:Nat),i < ks.length→X0.C.elem (pRefs ((ks.map (·.1)).map rf)) i=cT (ks[i]!).1:=by
    intro i hi
    show cRef (((ks.map (·.1)).map rf).getD i default)=_
    rw [List.getD_eq_getElem?_getD,List.getElem?_map,List.getElem?_map,List.getElem?_eq_getElem hi,getElem!_pos ks i hi]
    rfl
  have hlt:∀(i j:Nat) (d:D Pl),i < ks.length→(X0.C.elem (pRefs ((ks.map (·.1)).map rf)) i)[j]?=some d→j < 2:=by
    intro i j d hi hd
    rw [hel i hi] at hd
    have:=(List.getElem?_eq_some_iff.1 hd).1
    simpa [cT] using this
  have hcells:∀(i j:Nat) (d:D Pl),i < ks.length→(X0.C.elem (pRefs ((ks.map (·.1)).map rf)) i)[j]?=some d→(encK (ks[i]!))[j]?=some ((encK (ks[i]!))[j]!):=by
    intro i j d hi hd
    exact enc_get _ _ (hlt i j d hi hd)
  have hone:∀(x:KA) (j:Nat) v,(encK x)[j]?=some v→v.oneCell'=true∧∀d,(cT x.1)[j]?=some d→RD X0.C cx v d:=by
    intro x j v hv
    have h:=rd_vK x (C:=X0.C) (cx:=cx)
    cases h with
    | agg _ _ hs h1 hr=>exact ⟨h1 j v (by simpa [encK] using hv),fun d hd=>hr j v d (by simpa [encK] using hv) hd⟩
  refine .pl g 0 _ _ _ .any (fun i j=>(encK (ks[i]!))[j]!) (by show _=((ks.map (·.1)).map rf).length;simp) hc hb trivial hav (fun i j d hi hd=>?_) (fun i j d hi hd=>?_) (fun i j d hi hd=>?_)
  · have hj:=hlt i j d hi hd
    have hlt':i * 2+j < ks.length * 2:=by omega
    have:=(hH (i * 2+j) (by simpa using hlt')).1
    rw [id,get_flatK _ _ _ _ (by simpa using hlt'),show (i * 2+j) / 2=i by omega,show (i * 2+j) % 2=j by omega,List.getElem!_toArray] at this
    exact this
  · exact (hone _ _ _ (hcells i j d hi hd)).1
  · have h2:=(hone _ _ _ (hcells i j d hi hd)).2 d
    rw [hel i hi] at hd
    exact h2 hd
theorem pSorted_ok:∀ds b d,pSorted ds=some (b,d)→b=true→Snd 22 ds d:=by
  intro ds b d h hb
  unfold pSorted at h
  split at h
  · rename_i l
    simp only [Option.some.injEq,Prod.mk.injEq] at h
    obtain ⟨rfl,rfl⟩:=h
    simp only [Nat.ble_eq] at hb
    intro w av vs hg hav hs hr
    obtain ⟨v0,v1,rfl⟩:∃v0 v1,vs=#[v0,v1]:=by
      obtain ⟨l⟩:=vs
      match l,hs with
      | [a,b],_=>exact ⟨a,b,rfl⟩
    have h0:=hr 0 _ _ rfl rfl
    have h1:=hr 1 _ _ rfl rfl
    cases h1 with
    | fn _ f1 a1 b1 c1 _ hcs1 hcr1 hm1 =>
    obtain rfl:c1=#[]:=by simpa using hcs1
    obtain ⟨rfl,rfl,rfl⟩:f1=24∧a1=#[]∧b1=#[]:=by
      simp only [mkFn,show Nat.blt 24 mvB=true from rfl,cond_true,Value.func.injEq,Fn.func.injEq] at hm1
      exact hm1
    cases h0 with
    | fn _ f2 a2 b2 cb _ hcs hcr hm2 =>
    obtain ⟨u,rfl⟩:∃u,cb=#[u]:=by
      obtain ⟨l⟩:=cb
      match l,hcs with
      | [a],_=>exact ⟨a,rfl⟩
    obtain ⟨rfl,rfl,rfl⟩:f2=48∧a2=#[]∧b2=#[u]:=by
      simp only [mkFn,show Nat.blt 48 mvB=true from rfl,cond_true,Value.func.injEq,Fn.func.injEq] at hm2
      exact hm2
    have hu:=hcr 0 _ _ rfl rfl
    cases hu with
    | ref Bm Bo _ us hnav hcell _ hrd =>
    have hm:=hcell 0 _ rfl
    have hmr:=hrd 0 _ rfl
    generalize us 0=um at hm hmr
    cases hmr with
    | mr bm clock es _ _ hh hsz _ hk _ =>
    have hlen:es.size=l.length:=hsz.size
    obtain ⟨kl,hkl,hkl2⟩:=keys_of (C:=X0.C) es.toList l (by simpa using hlen) fun i e x he hx=>by
      have:=hk i e (by simpa using he)
      rw [show X0.C.mkey (⟨.map .two .unit,l⟩:Pl) i=.agg (cT x.1) from ?_] at this
      · exact this
      · show KT.enc .two ((l.getD i (KT.dflt .two,VT.dflt .unit)).1)=_
        rw [List.getD_eq_getElem?_getD,hx]
        rfl
    have hfit:=fit_of (P:=Tryz.prog) xok.pay (cx:=cx0 w av) shK_ok hsz (by show l.length≤maxLen;unfold big at hb;unfold maxLen;omega) hk (fun i hi=>rfl)
    have hBm:Bm < w.heap.size:=by
      rcases Nat.lt_or_ge Bm w.heap.size with h | h
      · exact h
      · simp [World.cell?,cx0,Array.getElem?_eq_none h] at hm
    have hc:=sorted_calls Bm Bo bm w hBm (keyed_ok shK_ok) hm hh hfit (by rw [hlen];exact hb) kl hkl
    refine .inl ⟨?_,hc.mono ?_⟩
    · exact enters_of Tryz.func22 (by kernel_rfl) rfl _ _
    · rintro e w' ⟨v,ks,rfl,hks,hbel,hv⟩
      rw [hkl2] at hks
      have hkn:ks.length=l.length:=by
        have:=congrArg List.length hks
        rw [List.length_map] at this
        rw [this,sortK,(List.mergeSort_perm _ _).length_eq,List.length_map]
      refine ⟨v,rfl,?_,.ofB hbel (fun h=>by cases h),trivial⟩
      rcases hv with ⟨rfl,rfl⟩ | ⟨g,cap,rfl,hcap,hgl,hH⟩
      · rw [←hks]
        exact .pl0 none 0 _ .any rfl trivial
      · exact sorted_rd hks hcap (by rw [hkn];exact hb) (fun h=>by have:=hav g h;omega) hH
  · simp at h
end Go.Proofs.YtpjfilgmfbdfoaaGreat
namespace Go.Proofs.YtpjfilgmfbdfoaaGreat
open Go.Eng
set_option maxRecDepth 100000
def tOp (n:Nat):Eng.Told Pl:=tellM 20 (pWalk n) (tell 22 pSorted tell0)
theorem eOfP (e:ExprR) (n:Nat):evF (tOp n) noTL noL 3 Tryz.f7 [.agg (cExpr e)] =
  ck_ (Nat.blt (esz (etaE e)) n&&okA [] (etaE e)) (ck_ (Nat.ble ((walkR n [] (etaE e) []).length * 32) big) (some (.pl (pRefs ((sortK ((walkR n [] (etaE e) []).map (·.1))).map rf)) .any))):=by kernel_rfl
def rt (r:RefR):Tw:=(r.root,r.name)
def eqRr (a b:RefR):Bool:=a.root==b.root&&(a.name==b.name&&true)
def twA (x:AskedR):Tw:=rt x.r
theorem accW_eq {W:List Str→ExprR→Mp→Mp} {A:List Str→ExprR→List AskedR} (h:∀b e m,W b e m=((A b e).map twA).foldl putT m) (b:List Str) (e:ExprR) (m:Mp):∀i,accW W b e m i=((accA A b e i).map twA).foldl putT m
  | 0=>rfl
  | i+1=>by rw [accW,accA,List.map_append,List.foldl_append,accW_eq h b e m i,h]
theorem walkR_eq:∀n b e m,walkR n b e m=((allR n b e).map twA).foldl putT m
  | 0,_,_,_=>rfl
  | n+1,b,e,m=>by
    rw [walkR,allR]
    cases e.op==2 with
    | true =>
      rw [cond_true,cond_true]
      cases hasS b e.s<;>rfl
    | false =>
      rw [cond_false,cond_false]
      cases isD e with
      | true =>
        rw [cond_true,cond_true]
        cases hasS b (e.l.getD 0 default).s<;>rfl
      | false=>rw [cond_false,cond_false,accW_eq (walkR_eq n) b e m]
theorem walkR_map (n:Nat) (b:List Str) (e:ExprR):walkR n b e []=mapS ((allR n b e).map twA):=walkR_eq n b e []
def ofP (e:ExprR):List RefR:=(sortK ((walkR (esz e+1) [] e []).map (·.1))).map rf
theorem ofP_sound (e:ExprR) (h:okA [] e=true):Snd 7 [.agg (cExpr e)] (.pl (pRefs (ofP e)) .any):=by
  have hT:TOk (tOp (esz e+1)):=tellM_ok (pWalk_ok fun b x m hx hb=>walk_n _ b x m hx hb) (tell_ok pSorted_ok (tell0_ok _))
  have h1:=allR_len (esz e+1) [] e
  have h3:=mapS_len ((allR (esz e+1) [] e).map twA)
  have h2:=okA_of h
  have hbig:big=140737488355328:=rfl
  unfold ofP
  refine snd_fn (n:=3) hT (noTL_ok _ _) (f:=7) (fn:=Tryz.f7) (by kernel_rfl) (loops_of (f:=7) (fn:=Tryz.f7) (by kernel_rfl) (loops_0 (by kernel_rfl))) ((eOfP e (esz e+1)).trans ?_)
  rw [etaE_eq,ck_t (by rw [blt_t (Nat.lt_succ_self _),h];rfl),ck_t (ble_t (by rw [walkR_map];rw [List.length_map] at h3;omega))]
def sameR (a b:List RefR):Bool:=a.length==b.length&&((List.range a.length).all fun i=>eqRr (a.getD i default) (b.getD i default))
def sSm (a b:List RefR) (i:Int):St Pl:=mkS 26 [(0,.pl (pRefs a) .any),(1,.pl (pRefs b) .any),(5,dI i)] []
def sSmr (a b:List RefR) (i:Int):St Pl:=mkS 26 [(0,.pl (pRefs a) .any),(1,.pl (pRefs b) .any),(4,.bool false),(5,dI i)] []
theorem bSm (a b:List RefR) (i:Nat):evD tell0 noTL noL 1 (loopAt 12 0) [0,1,4,5] [] (sSm a b i) =
    lt_ i a.length (ix_ i a.length (ix_ i b.length (bif !(eqRr (a.getD i default) (b.getD i default)) then some (.ret,sSmr a b i) else some (.normal,sSm a b (IntKind.i64.wrap ((i:Int)+1)))))) (some (.exit 0,sSm a b i)):=by kernel_rfl
theorem idsSm:(loopsAt 12).length=1∧firstId (loopAt 12 0)=4∧loopsOf (loopAt 12 0)=[]:=⟨by kernel_rfl,by kernel_rfl,by kernel_rfl⟩
def rSm0:St Pl:=mkS 26 [] []
def rSmf:St Pl:=mkS 26 [(4,.bool false)] []
def LSSm (S:St Pl):Option (Bool×LR Pl):=match seenS 26 [0,1,5] S with
  | some ([.pl ⟨.refs,a⟩ .any,.pl ⟨.refs,b⟩ .any,.int .i64 (.ofNat 0)],[])=>some (Nat.ble a.length big&&Nat.beq a.length b.length,.ite ((List.range a.length).all fun i=>eqRr (a.getD i default) (b.getD i default)) (.leaf (.exit 0) rSm0) (.leaf .ret rSmf))
  | _=>none
theorem LSSm_ok:SOk X0 (loopAt 12 0) LSSm:=by
  intro S c r h hc
  unfold LSSm at h
  split at h
  · rename_i a b hs
    simp only [Option.some.injEq,Prod.mk.injEq] at h
    obtain ⟨rfl,rfl⟩:=h
    simp only [Bool.and_eq_true,Nat.ble_eq] at hc
    have hl:=Nat.eq_of_beq_eq_true hc.2
    refine Goes.pre (keepOf [0,1,5]) ?_
    rw [seenS_mask hs]
    refine search_ofD (tell0_ok _) idsSm.2.2 (k:=1) (keep:=[0,1,4,5]) (lose:=[]) (keep2:=[4]) (Sf:=fun i=>sSm a b i) (S2':=fun i=>sSmr a b i) (p:=fun i=>eqRr (a.getD i default) (b.getD i default)) (by simp) (by simp) (fun i hi=>?_) ?_ rfl (fun i=>rfl)
    · show evD tell0 noTL noL 1 (loopAt 12 0) [0,1,4,5] [] (sSm a b i)=_
      rw [bSm,lt_t hi,ix_t hi,ix_t (by omega),wrap_nat (by omega)]
      cases eqRr (a.getD i default) (b.getD i default)<;>rfl
    · show evD tell0 noTL noL 1 (loopAt 12 0) [0,1,4,5] [] (sSm a b a.length)=_
      rw [bSm,lt_f (by omega)]
  · simp at h
theorem eSm (a b:List RefR):evF tell0 noTL (atL 4 LSSm noL) 1 Tryz.f12 [.pl (pRefs a) .any,.pl (pRefs b) .any] =
    bif ((a.length:Int) != (b.length:Int)) then some (.bool false) else ck_ (Nat.ble a.length big&&Nat.beq a.length b.length) (bif (List.range a.length).all (fun i=>eqRr (a.getD i default) (b.getD i default)) then some (.bool true) else some (.bool false)):=by kernel_rfl
theorem sameR_sound (a b:List RefR):Snd 12 [.pl (pRefs a) .any,.pl (pRefs b) .any] (.bool (sameR a b)):=by
  refine SoundAt.rooms fun hroom=>snd_fn (n:=1) (tell0_ok _) (noTL_ok _ _) (f:=12) (fn:=Tryz.f12) (by kernel_rfl) (loops_of (f:=12) (fn:=Tryz.f12) (by kernel_rfl) (loops_1 idsSm.1 (atL_ok (fun _=>LSSm_ok) fun h=>absurd idsSm.2.1 h))) ((eSm a b).trans ?_)
  have ha:a.length * 32≤big:=hroom (.pl (pRefs a) .any) (by simp)
  unfold sameR
  by_cases hl:a.length=b.length
  · rw [show ((a.length:Int) != (b.length:Int))=false by rw [hl];simp,cond_false,ck_t (by rw [ble_t (by omega),hl,Nat.beq_refl];rfl),show (a.length==b.length)=true by simp [hl],Bool.true_and]
    cases (List.range a.length).all fun i=>eqRr (a.getD i default) (b.getD i default)<;>rfl
  · rw [show ((a.length:Int) != (b.length:Int))=true by rw [bne_iff_ne];omega,show (a.length==b.length)=false by simp [hl]]
    rfl
def asRf:D Pl→Option (List RefR)
  | .nilS=>some []
  | .pl ⟨.refs,l⟩ _=>some l
  | _=>none
theorem asRf_rdle {d:D Pl} {l:List RefR} (h:asRf d=some l):RDle X0.C d (.pl (pRefs l) .any):=by
  unfold asRf at h
  split at h
  · simp only [Option.some.injEq] at h;subst h;exact RDle.of (.nil _ rfl)
  · simp only [Option.some.injEq] at h;subst h;exact RDle.of (.any _ _)
  · simp at h
def pSameR:List (D Pl)→Option (Bool×D Pl)
  | [d,e]=>match asRf d,asRf e with
    | some a,some b=>some (true,.bool (sameR a b))
    | _,_=>none
  | _=>none
theorem pSameR_ok:∀ds b d,pSameR ds=some (b,d)→b=true→Snd 12 ds d:=by
  intro ds b d h hb
  unfold pSameR at h
  split at h
  · split at h
    · rename_i h1 h2
      simp only [Option.some.injEq,Prod.mk.injEq] at h
      obtain ⟨_,rfl⟩:=h
      exact (sameR_sound _ _).pre (.cons (asRf_rdle h1) (.cons (asRf_rdle h2) .nil))
    · simp at h
  · simp at h
end Go.Proofs.YtpjfilgmfbdfoaaGreat
