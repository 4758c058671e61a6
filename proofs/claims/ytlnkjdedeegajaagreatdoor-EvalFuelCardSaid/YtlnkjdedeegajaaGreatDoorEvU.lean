/-
  'false && x', evaluated; the document's examples: 'suretylaw14.awake' is true.
-/
import Derived.Test.YtlnkjdedeegajaaGreatDoorEvS
import Derived.Orders
namespace Go.Eng
open Go.RowKit
theorem fnM_goes {α:Type} {X:Ctx α} (hX:XOk X) {f:FuncId} {fn:Func} {H:Obs α} {ds:List (D α)} {d:D α} {cd:Code} {e:Ex} {S':St α} (hf:X.P.funcs[f]?=some fn) (hn:(fn.name=="runtime.NumGoroutine")=false) (hb:fn.body=some cd)
    (hgo:Goes X cd ⟨ds++List.replicate (fn.ntmps - ds.length) .bad,H⟩ e S') (hne:∀id,e≠.exit id) (hfd:finM X fn H S'=some d):∃os' d',d=.env os' d'∧SoundM X.P X.C X.glob f H ds d' (decH os'):=by
  unfold finM at hfd
  simp only at hfd
  split at hfd
  case h_2=>simp at hfd
  rename_i rs hrs
  generalize hnw:nmFrom 90000000 ((boxesOf S'.hs 64 (ptrsL X.own rs++((H.filter fun x=>Nat.blt x.1 100000).map fun x=>(x.1,x.1)).map (·.1)) []).filter fun o=>!(memNat (((H.filter fun x=>Nat.blt x.1 100000).map fun x=>(x.1,x.1)).map (·.1)) o))=nw at hfd
  generalize hnn:nw++nestsOf S'.hs inNest (((H.filter fun x=>Nat.blt x.1 100000).map fun x=>(x.1,x.1))++nw)=nn at hfd
  split at hfd
  case h_2=>simp at hfd
  rename_i H' l ns hpk'
  have hpk:=packE_spec hpk'
  cases htop:((H.filter fun x=>Nat.blt x.1 100000).map fun x=>(x.1,x.1)).all (topOk H) with
  | false=>rw [htop] at hfd;simp at hfd
  | true =>
  rw [htop] at hfd
  simp only [cond_true,Option.some.injEq] at hfd
  subst hfd
  refine ⟨_,_,rfl,?_⟩
  rw [dec_enc _ hpk.fz]
  intro g vs hnt hE hsz hrel
  have htops:∀c x,Nat.blt c 100000=true→look H c=some x→(c,c)∈((H.filter fun x=>Nat.blt x.1 100000).map fun x=>(x.1,x.1))∧Nat.blt c 50000=false∧∀f p,x≠.arr f p:=by
    intro c x hc hx
    have hm:(c,c)∈((H.filter fun x=>Nat.blt x.1 100000).map fun x=>(x.1,x.1)):=List.mem_map.2 ⟨(c,x),List.mem_filter.2 ⟨look_mem _ _ _ hx,hc⟩,rfl⟩
    have h1:=List.all_eq_true.1 htop _ hm
    unfold topOk at h1
    simp only [hx] at h1
    cases x with
    | arr f p=>simp at h1
    | box f cs=>simp only [Bool.and_eq_true,Bool.not_eq_true'] at h1;exact ⟨hm,h1.2,by simp⟩
    | map f p=>simp only [Bool.and_eq_true,Bool.not_eq_true'] at h1;exact ⟨hm,h1.2,by simp⟩
  have hn':¬ fn.name="runtime.NumGoroutine" := by simpa using hn
  refine .inl ⟨by simp [callFunc,hf,hn',hb],calls_of_wp hf hb ?_⟩
  generalize hg1:({ g with top:=fun c=>bif Nat.blt c 100000&&(look H c).isSome then g.rho c else none }:Gh)=g1
  have hcx:(cxOf g1 H g.w0:Cx α)=cxOf g H g.w0:=by subst hg1;rfl
  have hget:∀t,RG X.C (cxOf g1 H g.w0) (vs++Array.replicate (fn.ntmps - vs.size) undef) ((vs++Array.replicate (fn.ntmps - vs.size) undef).getD t undef) (getT (ds++List.replicate (fn.ntmps - ds.length) .bad) t):=by
    intro t
    rw [getT_get,Array.getD_eq_getD_getElem?,Array.getElem?_append,List.getElem?_append]
    by_cases ht:t < vs.size
    · rw [if_pos ht,if_pos (by omega)]
      have h1:vs[t]?=some vs[t]:=by simp [ht]
      have h2:ds[t]?=some (ds[t]'(by omega)):=by simp
      rw [h1,h2]
      simp only [Option.getD_some]
      rw [hcx]
      exact RG.of (hrel t _ _ h1 h2)
    · rw [if_neg ht,if_neg (by omega),List.getElem?_replicate]
      split<;>exact .bad _
  have hS:Sim X g1 (ds++List.replicate (fn.ntmps - ds.length) .bad) H { tmps:=vs++Array.replicate (fn.ntmps - vs.size) undef,defers:=[] } g.w0:=by
    refine ⟨by simp;omega,hget,rfl,fun o ob ho=>?_,?_,?_,?_,?_,?_,fun c b hc=>?_,?_⟩
    · rw [hcx]
      have:=hE.obs o ob ho
      subst hg1
      exact this
    · subst hg1;exact hE.inj
    · subst hg1;exact hE.own
    · subst hg1;exact hE.below
    · subst hg1;exact hE.av0
    · subst hg1;exact hE.lav
    · subst hg1
      simp only at hc
      cases hcc:Nat.blt c 100000&&(look H c).isSome with
      | false=>rw [hcc] at hc;simp at hc
      | true =>
      rw [hcc] at hc
      simp only [cond_true] at hc
      simp only [Bool.and_eq_true,Option.isSome_iff_exists] at hcc
      obtain ⟨h1,x,hx⟩:=hcc
      obtain ⟨_,h3,h4⟩:=htops c x h1 hx
      refine ⟨h3,h1,fun ob ho=>⟨hc,?_⟩⟩
      rw [hx] at ho
      simp only [Option.some.injEq] at ho
      subst ho
      exact h4
    · subst hg1;exact hE.glob
  have hK:KeyIn (ds++List.replicate (fn.ntmps - ds.length) (.bad:D α)) (fun _=>False):=by
    intro t ks b e ht
    rw [getT_get,List.getElem?_append] at ht
    by_cases h':t < ds.length
    · rw [if_pos h'] at ht
      have h1:vs[t]?=some (vs[t]'(by omega)):=by simp
      have h2:ds[t]?=some ds[t]:=by simp [h']
      rw [h2] at ht
      simp only [Option.getD_some] at ht
      have:=hrel t _ _ h1 h2
      rw [ht] at this
      exact this.noGd.elim
    · rw [if_neg h',List.getElem?_replicate] at ht
      split at ht<;>simp at ht
  refine hgo g1 _ g.w0 hS hK _ fun rho' a' w' hS' hK'=>?_
  have hfin:a'.defers=[]∧∃v,(results fn a'.tmps).run X.P w'=.ok v w'∧∃v',Ending.returned v=.returned v'∧∃rho2,Sim (ctx0 X.P X.C X.glob) { g with rho:=rho2 } [] H' act0 w'∧RD X.C (cxOf { g with rho:=rho2 } H' w') v' (packR l) ∧
      ∀c ob,Nat.blt c 100000=true→look H c=some ob→rho2 c=g.rho c∧∃ob',look H' c=some ob'∧∀f p,ob'≠.arr f p:=by
    obtain ⟨hL1,hP⟩:=leave_env hX hS' hpk
    obtain ⟨ms,hms,hmn⟩:=hpk.args
    obtain ⟨hlen,hget⟩:=packAll_sound hX hS' hP rs l ms hms hmn
    obtain ⟨v,h1,h2⟩:=results_of hX hS' fn rs hrs hlen hget
    refine ⟨hS'.dfr,v,h1,v,rfl,rhoP (((H.filter fun x=>Nat.blt x.1 100000).map fun x=>(x.1,x.1))++nn) rho',?_,?_,fun c ob hc ho=>?_⟩
    · subst hg1
      exact ⟨hL1.size,hL1.tm,hL1.dfr,hL1.obs,hL1.inj,hL1.own,hL1.below,hL1.av0,hL1.lav,fun c b hc=>by rw [hnt c] at hc;simp at hc,hL1.glob⟩
    · subst hg1;exact h2
    · obtain ⟨hm,h50,hna⟩:=htops c ob hc ho
      obtain ⟨b,hb'⟩:∃b,g.rho c=some b:=by
        have:=hE.obs c ob ho
        cases ob with
        | arr f p=>exact absurd rfl (hna f p)
        | box f cs=>obtain ⟨b,_,_,h,_⟩:=this;exact ⟨b,h⟩
        | map f p=>obtain ⟨b,_,_,h,_⟩:=this;exact ⟨b,h⟩
      have hm':=List.mem_append_left nn hm
      obtain ⟨ob1,x,n1,k1,k2,k3,_⟩:=hpk.im c c hm'
      obtain ⟨_,_,t3⟩:=hS'.top c b (by subst hg1;simp only [hc,ho,Option.isSome_some,Bool.and_self,cond_true];exact hb')
      obtain ⟨r1,r2⟩:=t3 ob1 k1
      obtain ⟨-,-,s1⟩:=packOb_kind k3
      exact ⟨(rhoP_mem hpk.d2 hm').trans (r1.trans hb'.symm),x,k2,bm_kind s1 r2⟩
  cases e with
  | normal=>exact hfin
  | exit id=>exact absurd rfl (hne id)
  | ret=>exact hfin
end Go.Eng
namespace Go.Proofs.YtlnkjdedeegajaaGreatDoor
open Go.Eng
set_option maxRecDepth 100000
namespace Ev
instance:Inhabited (List (D Pl)×Obs Pl):=⟨([],[])⟩
def readyB (ops:Array Oper) (pres:List Nat) (m i:Nat):Bool:=!(m.testBit i)&&(List.range ops.size).all fun j=>!(hasBit ((pres[i]?).getD 0) j)||m.testBit j
def pairsB (ops:Array Oper) (tab:List Nat):List (Nat×Nat):=tab.flatMap fun m=>((List.range ops.size).filter (readyB ops (presOf ops.toList []) m)).map fun i=>(m,i)
def tabOk (ops:Array Oper) (nx:Nat×Nat→Nat) (tab:List Nat) (full full':Nat):Bool :=
  (distinctD (allDst ops)&&(ops.all (fun o=>o.guard.isNone)&&backOK 0 ops.toList))&&(memN tab 0&&((pairsB ops tab).all (fun q=>memN tab (nx q)&&(List.range ops.size).all fun j=>(nx q).testBit j==(q.1.testBit j||Nat.beq j q.2))&&tab.all fun m=>(Nat.beq m full||Nat.beq m full')||(List.range ops.size).any fun i=>!(m.testBit i)))
noncomputable def stepF (R:Eng.Told Pl) (TL:LoopsT Pl) (n:Nat) (ops:Array Oper) (F:Nat→St Pl) (q:Nat×Nat):Option (List (D Pl)×Obs Pl):=match ops[q.2]? with
  | some o=>runL X0 (callK X0 F0 R TL n) ops q.2 [o] (F q.1).tm (F q.1).hs [] [] (fun tm hs _ _=>some (tm,hs))
  | none=>none
def nextF (nx:Nat×Nat→Nat) (F:Nat→St Pl) (q:Nat×Nat):Option (List (D Pl)×Obs Pl):=some ((F (nx q)).tm,(F (nx q)).hs)
theorem goes_draw {R:Eng.Told Pl} (hR0:TOk R) {TL:LoopsT Pl} (hTL:LOk TL) {n:Nat} {id:Nat} {ops:Array Oper} (F:Nat→St Pl) (nx:Nat×Nat→Nat) (tab:List Nat) (full full':Nat) (ht:tabOk ops nx tab full full'=true)
    (hst:(pairsB ops tab).map (stepF R TL n ops F)=(pairsB ops tab).map (nextF nx F)) (h2f:(F full').tm=(F full).tm∧∀k,Eng.look (F full').hs k=Eng.look (F full).hs k):GoesTo (.region id ops true) (F 0) .normal (F full):=by
  unfold tabOk at ht
  simp only [Bool.and_eq_true] at ht
  obtain ⟨⟨h1,h2,h3⟩,h4,h5,h6⟩:=ht
  obtain ⟨hsl,hdis⟩:=slots_of (draw:=true) (ops:=ops) (by rw [h1];rfl)
  have hgn:∀o∈ops,o.guard=none:=fun o ho=>by simpa using (Array.all_eq_true'.1 h2) o ho
  have hR:ROk (X0.withR (semR X0 F0 R TL (List (D Pl)×Obs Pl) n)):=by
    intro f' ds' b' d' hr hb
    have hr:semR X0 F0 R TL (List (D Pl)×Obs Pl) n f' ds'=some (b',d'):=hr
    unfold semR at hr
    split at hr
    · rename_i hex
      simp only [Option.some.injEq,Prod.mk.injEq] at hr
      rw [←hr.2]
      exact semOk xok fok hR0 hTL n _ _ _ hex.choose_spec
    · simp at hr
  refine (goes_withR (semR X0 F0 R TL (List (D Pl)×Obs Pl) n)).1 ?_
  have hX:=xok_withR xok (semR X0 F0 R TL (List (D Pl)×Obs Pl) n)
  have hck:=ckOk (γ:=List (D Pl)×Obs Pl) X0 F0 R TL n
  generalize hXX:X0.withR (semR X0 F0 R TL (List (D Pl)×Obs Pl) n)=X at hR hX hck
  intro g a w hS hK Q hQ
  refine wp_region_any hX.mixed ?_
  have hL0:∀j,(Array.replicate ops.size false).getD j false=true→False:=by
    intro j h
    simp only [Array.getD_eq_getD_getElem?,Array.getElem?_replicate] at h
    split at h<;>simp at h
  have hcnt:unlisted ops.size (Array.replicate ops.size false)≤ops.size:=by
    have:=List.countP_le_length (p:=fun i=>!(Array.replicate ops.size false).getD i false) (l:=List.range ops.size)
    simpa [unlisted] using this
  have hgrow:Sim X { g with rho:=g.rho } (F 0).tm (F 0).hs a { w with drawn:=w.drawn+1 }:=hS.grow hX.pay ⟨rfl,rfl,rfl,Nat.le_refl _,fun _ _=>rfl,fun _=>Nat.le_succ _⟩
  refine anyorder hX hR hsl (T:=fun _=>(F full).tm) (H:=fun _=>(F full).hs) (fun j o ho e he hb=>by
      have:=backOK_spec ops.toList 0 h3 j o (by simpa using ho) e he hb
      omega)
    (fun L tm hs=>∃m,m∈tab∧(∀i,i < ops.size→(L i↔m.testBit i=true))∧tm=(F m).tm∧hs=(F m).hs)
    (fun L tm hs hI hdown hLn i o ho hiL hpre=>?_) (fun L tm hs hI hall=>?_) (fun rho' a' w' hS' hK'=>hQ rho' a' w' hS' (hK'.mono fun s ⟨hn,_⟩=>hn hgn))
    ops.size _ (F 0).tm (F 0).hs g.rho a _ (by simp) ?_ (fun j h=>(hL0 j h).elim) (hK.mono fun _ h=>h.elim) hgrow hcnt
  · obtain ⟨m,hm,hb,rfl,rfl⟩:=hI
    have hi:i < ops.size:=by
      rcases Nat.lt_or_ge i ops.size with h | h
      · exact h
      · simp [Array.getElem?_eq_none h] at ho
    have hq:(m,i)∈pairsB ops tab:=by
      refine List.mem_flatMap.2 ⟨m,hm,List.mem_map.2 ⟨i,List.mem_filter.2 ⟨List.mem_range.2 hi,?_⟩,rfl⟩⟩
      unfold readyB
      simp only [Bool.and_eq_true,Bool.not_eq_true',List.all_eq_true,List.mem_range,Bool.or_eq_true]
      refine ⟨?_,fun j hj=>?_⟩
      · cases h:m.testBit i with
        | false=>rfl
        | true=>exact absurd ((hb i hi).2 h) hiL
      · cases h:hasBit (((presOf ops.toList [])[i]?).getD 0) j with
        | false=>exact .inl rfl
        | true=>exact .inr ((hb j hj).1 (hpre j h))
    have he:=List.map_inj_left.1 hst (m,i) hq
    unfold stepF nextF at he
    rw [show ((m,i):Nat×Nat).2=i from rfl,ho] at he
    simp only at he
    rw [←runL_withR (semR X0 F0 R TL (List (D Pl)×Obs Pl) n),hXX] at he
    obtain ⟨T,H,W,wsN,lgN,hT,hH,hk,hst',_⟩:=trace X _ hck ops _ _ [o] i _ _ _ _ he
    have hstp:=hst' 0 o rfl
    simp only [List.length_singleton,Option.some.injEq,Prod.mk.injEq] at hk
    rw [Nat.add_zero,hT,hH,hk.1,hk.2] at hstp
    have h5:=List.all_eq_true.1 h5 _ hq
    rw [Bool.and_eq_true,List.all_eq_true] at h5
    refine ⟨_,_,_,hstp,⟨nx (m,i),(memN_iff _ _).1 h5.1,fun j hj=>?_,rfl,rfl⟩,fun j want hg=>?_⟩
    · rw [beq_iff_eq.1 (h5.2 j (List.mem_range.2 hj)),Bool.or_eq_true,Nat.beq_eq]
      exact or_congr (hb j hj) Iff.rfl
    · have:=hgn o (Array.mem_of_getElem? ho)
      rw [this] at hg
      simp at hg
  · obtain ⟨m,hm,hb,rfl,rfl⟩:=hI
    have:=List.all_eq_true.1 h6 m hm
    rw [Bool.or_eq_true,Bool.or_eq_true,Nat.beq_eq,Nat.beq_eq,List.any_eq_true] at this
    rcases this with (h | h) | ⟨i,hi,h⟩
    · rw [h];exact ⟨rfl,fun _=>rfl⟩
    · rw [h];exact h2f
    · have hi:=List.mem_range.1 hi
      rw [(hb i hi).1 (hall i hi)] at h
      simp at h
  · refine ⟨0,(memN_iff _ _).1 h4,fun i _=>⟨fun h=>(hL0 i h).elim,fun h=>?_⟩,rfl,rfl⟩
    simp at h
end Ev
end Go.Proofs.YtlnkjdedeegajaaGreatDoor
namespace Go.Proofs.YtlnkjdedeegajaaGreatDoor
open Go.Eng
set_option maxRecDepth 100000
namespace Ev
def sFu0 (k:Int):St Pl:=mkS 66 [(2,.bool false),(3,dI k),(4,.ptr 4 0),(5,dI 0)] [(4,.box false (cNilL .nilS))]
def sFu (k:Int) (acc:List Val) (i:Int):St Pl:=mkS 66 [(2,.bool false),(3,dI k),(4,.ptr 4 0),(5,dI i)] [(23,.arr false (pVals acc)),(4,.box false (cNilL (.arr 23)))]
def FFu:Fix Pl:={ keep:=[2,3,4,5],lose:=[],ord:=[23,4] }
theorem weakFu_eq (k:Int):nilsS X0.C [(.cell 4 3,23,pVals [])] (sFu0 k)=sFu k [] 0:=by kernel_rfl
theorem weakFu (k:Int):Weak X0 (sFu0 k) (sFu k [] 0):=weakFu_eq k ▸ Weak.nils xok [(.cell 4 3,23,pVals [])] (sFu0 k)
theorem bFu (k:Int) (acc:List Val) (i:Nat):evZ tell0 noTL noL 1 (loopAt 3 0) FFu (sFu k acc i) =
    bif decide ((i:Int) < k) then ck_ (Nat.ble ((acc.length+1) * 104) big) (some (.normal,sFu k (acc++[intV 1]) (IntKind.i64.wrap ((i:Int)+1)))) else some (.exit 0,sFu k acc i):=by kernel_rfl
theorem idsFu:(loopsAt 3).length=1∧firstId (loopAt 3 0)=4∧loopsOf (loopAt 3 0)=[]:=⟨by kernel_rfl,by kernel_rfl,by kernel_rfl⟩
def KFu (k:Int):Prop:=0≤k∧k≤39
noncomputable def LSFu (S:St Pl):Option (Bool×LR Pl):=match seenS 66 [2,3,4,5] S with
  | some ([.bool false,.int .i64 k,.ptr 4 0,.int .i64 (.ofNat 0)],[(4,.box false [.int .i64 (.ofNat 4),.int .i64 (.ofNat 0),.str [],.nilS,.nilS,.int .i64 (.ofNat 0),.int .i64 (.ofNat 0),.bool false])]) =>
    some (Go.Proofs.YtlnkjdedeegajaaGreatDoor.cB (KFu k),.leaf (.exit 0) (sFu k (ones k.toNat) k))
  | _=>none
theorem LSFu_ok:SOk X0 (loopAt 3 0) LSFu:=by
  intro S c r h hc
  unfold LSFu at h
  split at h
  · rename_i k hs
    simp only [Option.some.injEq,Prod.mk.injEq] at h
    obtain ⟨rfl,rfl⟩:=h
    obtain ⟨h0,h1⟩:KFu k:=@of_decide_eq_true _ (Classical.propDecidable _) hc
    have hbig:big=140737488355328:=rfl
    obtain ⟨n,rfl⟩:=Int.eq_ofNat_of_zero_le h0
    refine Goes.pre (keepOf [2,3,4,5]) ?_
    rw [seenS_mask hs]
    refine Goes.weakPre (weakFu n) ?_
    have hn:((n:Int)).toNat=n:=Int.toNat_natCast n
    rw [hn]
    refine loop_all (Sf:=fun i:Nat=>sFu n (ones i) i) (n:=n) (by simp) (fun i hi=>?_) ?_
    · refine goes_ofZ (tell0_ok _) (noTL_ok _ _) (noLoops idsFu.2.2) ((bFu n _ i).trans ?_)
      rw [decide_eq_true (show (i:Int) < (n:Int) by omega),cond_true,ck_t (ble_t (by rw [ones_len];omega)),wrap_nat (by omega)]
      show _=some (Ex.normal,sFu n (ones (i+1)) ((i+1:Nat):Int))
      unfold ones
      rw [List.replicate_succ']
    · refine goes_ofZ (tell0_ok _) (noTL_ok _ _) (noLoops idsFu.2.2) ((bFu n _ n).trans ?_)
      rw [decide_eq_false (show ¬ (n:Int) < (n:Int) by omega)]
      rfl
  · simp at h
def KEv (e:ExprR) (N:List BindR):Prop:=e=eB3∧∃k:Nat,k≤39∧N=N0 (ones k)
noncomputable def pEl (V:List BindR→Val) (M:List BindR→MR):List (D Pl)→Option (Bool×D Pl)
  | [.agg cs,.pl ⟨.binds,N⟩ _]=>match exE cs with
    | some e=>some (Go.Proofs.YtlnkjdedeegajaaGreatDoor.cB (KEv e N),.tup [.agg (cV (V N)),.agg (cDgM (M N))])
    | none=>none
  | _=>none
def pTr:List (D Pl)→Option (Bool×D Pl)
  | []=>some (true,.bool true)
  | _=>none
noncomputable def tLw (V:List BindR→Val) (M:List BindR→MR):Eng.Told Pl:=tell 4 pPa (tell 5 (pEl V M) (tell 6 pTr tell0))
def an (a:Bool) (k:Option (D Pl)):Option (D Pl):=bif a==true then k else some (.bool false)
def w64' (x:Int):Int:=IntKind.i64.wrap x
noncomputable def fuV (V:List BindR→Val) (M:List BindR→MR) (k:Int):Option (D Pl) :=
  ck_ (Go.Proofs.YtlnkjdedeegajaaGreatDoor.cB (KFu k)) (ck_ (Go.Proofs.YtlnkjdedeegajaaGreatDoor.cB (KEv (etaE eB3) (N0 (ones k.toNat)))) (
    bif (M (N0 (ones k.toNat))).c==0 then an ((V (N0 (ones k.toNat))).i==w64' (w64' (k * k) * k)) (some (.bool true))
    else an (bif (bif (M (N0 (ones k.toNat))).c==3 then (M (N0 (ones k.toNat))).w==sFuel else false) then decide (k > 10) else false) (some (.bool true))))
theorem eFu (V:List BindR→Val) (M:List BindR→MR) (n:Int):evF (tLw V M) noTL (atL 4 LSFu noL) 3 Tryz.f3 [.int .u8 n]=fuV V M (w64' (n.tmod 40)):=by kernel_rfl
def kOf (N:List BindR):Nat:=match N with
  | [b]=>b.v.l.length
  | _=>0
theorem kOf_N0 (k:Nat):kOf (N0 (ones k))=k:=ones_len k
noncomputable def gOf (k:Nat):Int→PosR:=if h:k≤39 then (lvl3 h).choose else fun _=>p00
noncomputable def Vn (N:List BindR):Val:=Vt (t3 (kOf N)) (intV (kOf N * (kOf N * (kOf N * 1)))) 20000
noncomputable def Mn (N:List BindR):MR:=Mt (t3 (kOf N)) (gOf (kOf N)) 20000
theorem evN {k:Nat} (hk:k≤39):Snd 5 [.agg (cExpr eB3),.pl (pBinds (N0 (ones k))) .any] (.tup [.agg (cV (Vn (N0 (ones k)))),.agg (cDgM (Mn (N0 (ones k))))]):=by
  have hg:gOf k=(lvl3 hk).choose:=dif_pos hk
  have h:=ev_sound (V:=fun f=>Vt (t3 k) (intV (k * (k * (k * 1)))) f) (M:=fun f=>Mt (t3 k) (gOf k) f) (e:=eB3) (N:=N0 (ones k)) (by
    rw [hg]
    exact (lvl3 hk).choose_spec)
  unfold Vn Mn
  rw [kOf_N0]
  exact h
theorem pEl_ok:∀ds b d,pEl Vn Mn ds=some (b,d)→b=true→Snd 5 ds d:=by
  intro ds b d h hb
  unfold pEl at h
  split at h
  · split at h
    · rename_i N k cs e he
      simp only [Option.some.injEq,Prod.mk.injEq] at h
      obtain ⟨h3,rfl⟩:=h
      rw [←h3] at hb
      obtain ⟨rfl,k,hk,rfl⟩:KEv e _:=@of_decide_eq_true _ (Classical.propDecidable _) hb
      rw [exE_eq he]
      exact (evN hk).pre (.cons (RDle.refl _) (.cons (RDle.of (.any _ _)) (RDles.refl _)))
    · simp at h
  · simp at h
theorem cubes:(List.range 40).all (fun k=>(intV ((k:Int) * (k * (k * 1)))).i==w64' (w64' ((k:Int) * k) * k))=true:=by kernel_rfl
theorem cubes_all (k:Nat) (h:k∈List.range 40):((intV ((k:Int) * (k * (k * 1)))).i==w64' (w64' ((k:Int) * k) * k))=true:=List.all_eq_true.1 cubes k h
theorem law_fu (k:Nat) (hk:k≤39):fuV Vn Mn k=some (.bool true):=by
  have h1:Go.Proofs.YtlnkjdedeegajaaGreatDoor.cB (KFu k)=true:=@decide_eq_true _ (Classical.propDecidable _) ⟨by omega,by omega⟩
  have h2:Go.Proofs.YtlnkjdedeegajaaGreatDoor.cB (KEv (etaE eB3) (N0 (ones (k:Int).toNat)))=true:=@decide_eq_true _ (Classical.propDecidable _) ⟨etaE_eq _,k,hk,by rw [Int.toNat_natCast]⟩
  unfold fuV
  rw [h1,ck_t rfl,h2,ck_t rfl,Int.toNat_natCast]
  unfold Vn Mn
  rw [kOf_N0]
  by_cases ht:t3 k≤20000
  · rw [show Vt (t3 k) (intV (k * (k * (k * 1)))) 20000=intV (k * (k * (k * 1))) from if_pos (by omega),show Mt (t3 k) (gOf k) 20000=okM (20000 - t3 k) from if_pos (by omega)]
    have hv:(intV ((k:Int) * (k * (k * 1)))).i==w64' (w64' ((k:Int) * k) * k):=cubes_all k (List.mem_range.2 (by omega))
    rw [hv]
    rfl
  · rw [show Mt (t3 k) (gOf k) 20000=⟨0,3,gOf k 20000,sFuel⟩ from if_neg (by omega)]
    have hd:decide ((k:Int) > 10)=true:=by
      refine decide_eq_true ?_
      refine Classical.byContradiction fun h=>ht ?_
      have:∀k:Fin 11,t3 k.val≤20000:=by decide
      exact this ⟨k,by omega⟩
    rw [hd]
    rfl
theorem tLw_ok (haw:Snd 6 [] (.bool true)):TOk (tLw Vn Mn):=by
  refine tell_ok pPa_ok (tell_ok pEl_ok (tell_ok (fun ds b d h hb=>?_) (tell0_ok _)))
  unfold pTr at h
  split at h
  · simp only [Option.some.injEq,Prod.mk.injEq] at h
    obtain ⟨_,rfl⟩:=h
    exact haw
  · simp at h
theorem fuel_sound (haw:Snd 6 [] (.bool true)) (n:Int) (h0:0≤n):Snd 3 [.int .u8 n] (.bool true):=by
  have hk:w64' (n.tmod 40)=((n.toNat % 40:Nat):Int):=by
    obtain ⟨m,rfl⟩:=Int.eq_ofNat_of_zero_le h0
    rw [Int.tmod_eq_emod_of_nonneg (by omega),Int.toNat_natCast]
    exact wrap_in _ (by omega)
  refine snd_fn (n:=3) (tLw_ok haw) (noTL_ok _ _) (f:=3) (fn:=Tryz.f3) (by kernel_rfl) (loops_of (f:=3) (fn:=Tryz.f3) (by kernel_rfl) (loops_1 idsFu.1 (atL_ok (fun _=>LSFu_ok) fun h=>absurd idsFu.2.1 h))) ((eFu Vn Mn n).trans ?_)
  rw [hk]
  exact law_fu _ (by omega)
end Ev
end Go.Proofs.YtlnkjdedeegajaaGreatDoor
namespace Go.Proofs.YtlnkjdedeegajaaGreatDoor
open Go.Eng
set_option maxRecDepth 100000
namespace Ev
def seqA:Code→Code
  | .seq a _=>a
  | c=>c
def seqB:Code→Code
  | .seq _ b=>b
  | c=>c
def regO:Code→Array Oper
  | .region _ ops _=>ops
  | _=>#[]
noncomputable def jB:Code:=(Tryz.f39.body).getD .skip
noncomputable def jR:Code:=seqA (seqB (seqB (seqB jB)))
noncomputable def jE:Code:=seqB (seqB (seqB (seqB jB)))
def xL:ExprR:=litE 1 0 [] (pAt 0 1)
def bF:Val:=⟨1,0,[],[],[],0,0,false⟩
def onB (m i:Nat) (d:D Pl):D Pl:=bif m.testBit i then d else .bad
def FJ (m:Nat):St Pl :=
  let o6:Obs Pl:=bif m.testBit 8 then [(6,.box false (bif m.testBit 9 then cV bF else cZ))] else []
  let oM:Obs Pl:=[(50000,.box false (cMs (.pl (pBinds nX) .any) (okM (bif m.testBit 7 then 19998 else 19999))))]
  let oR:Obs Pl:=[(4,.box false cZ),(3,.box false (cExpr x2))]
  mkS 71 [(0,.ptr 50000 0),(3,.ptr 3 0),(4,.ptr 4 0),(5,dI 0),(12,onB m 0 (.ptr 50000 0)),(13,onB m 1 (.ptr 3 11)),(14,onB m 2 (.pl (pExprs x2.l) .any)),(15,onB m 3 (.ref (cExpr xL))),(16,onB m 4 (.agg (cExpr xL))),
    (17,onB m 5 (.ptr 3 12)),(18,onB m 6 (.agg [dI 6,dI 1,dI 7])),(19,onB m 7 (.agg (cV bF))),(6,onB m 8 (.ptr 6 0))]
    (bif m.testBit 7 then (bif m.testBit 10 then oM++(o6++oR) else o6++(oM++oR)) else o6++(oR++oM))
def nxJ (q:Nat×Nat):Nat:=bif Nat.beq q.2 7&&q.1.testBit 8 then (q.1 ||| 128) ||| 1024 else q.1 ||| (1 <<< q.2)
def tabJ:List Nat:=[0,1,2,32,256,3,33,257,6,34,258,96,288,7,35,259,97,289,14,38,262,98,290,352,15,39,263,99,291,353,30,46,270,102,294,354,31,47,271,103,295,355,62,286,110,302,358,63,287,111,303,359,126,318,366,127,319,367,382,255,383,511,1535,1023,2047]
theorem tabJ_ok:tabOk (regO jR) nxJ tabJ 1023 2047=true:=by kernel_rfl
theorem stepJ:(pairsB (regO jR) tabJ).map (stepF tAw noTL 25 (regO jR) FJ)=(pairsB (regO jR) tabJ).map (nextF nxJ FJ):=by kernel_rfl
theorem look2 (x y:Ob Pl) (r:Obs Pl) (k:Nat):Eng.look ((50000,x)::(6,y)::r) k=Eng.look ((6,y)::(50000,x)::r) k:=by
  simp only [Eng.look]
  cases h:Nat.beq 50000 k with
  | false=>rfl
  | true =>
    have:=Nat.eq_of_beq_eq_true h
    subst this
    rfl
theorem goesJ:GoesTo (.region 4 (regO jR) true) (FJ 0) .normal (FJ 1023) :=
  goes_draw (id:=4) tAw_ok (noTL_ok _ _) FJ nxJ tabJ 1023 2047 tabJ_ok stepJ ⟨by kernel_rfl,fun k=>look2 _ _ _ k⟩
theorem jB_eq:jB=.seq (seqA jB) (.seq (seqA (seqB jB)) (.seq (seqA (seqB (seqB jB))) (.seq (.region 4 (regO jR) true) jE))):=by kernel_rfl
def S0J:St Pl:=⟨[.ptr 50000 0,.agg (cExpr x2)]++List.replicate 69 .bad,decH (osP nX (okM 19999))⟩
def SeJ:St Pl:=mkS 71 [(4,.ptr 4 0)] [(6,.box false (cV bF)),(50000,.box false (cMs (.pl (pBinds nX) .any) (okM 19998))),(4,.box false (cV bF)),(3,.box false (cExpr x2))]
def hJ:Obs Pl:=[(4,.box false cZ),(3,.box false (cExpr x2)),(50000,.box false (cMs (.pl (pBinds nX) .any) (okM 19999)))]
def SaJ:St Pl:=mkS 71 [(0,.ptr 50000 0),(3,.ptr 3 0),(4,.ptr 4 0)] hJ
def SbJ:St Pl:=mkS 71 [(0,.ptr 50000 0),(3,.ptr 3 0),(4,.ptr 4 0),(5,dI 0)] hJ
theorem goesA1:GoesTo (seqA jB) S0J .normal SaJ:=goes_of (n:=25) (L:=noL) (keep:=[0,3,4]) tAw_ok (noTL_ok _ _) (noLoops (by kernel_rfl)) (by kernel_rfl)
theorem goesA2:GoesTo (seqA (seqB jB)) SaJ .normal SbJ:=goes_of (n:=25) (L:=noL) (keep:=[0,3,4,5]) tAw_ok (noTL_ok _ _) (noLoops (by kernel_rfl)) (by kernel_rfl)
theorem goesA3:GoesTo (seqA (seqB (seqB jB))) SbJ .normal (FJ 0):=goes_of (n:=25) (L:=noL) (keep:=[0,3,4,5]) tAw_ok (noTL_ok _ _) (noLoops (by kernel_rfl)) (by kernel_rfl)
theorem goesSeq {a b:Code} {S S1 S':St Pl} {e:Ex} (h1:GoesTo a S .normal S1) (h2:GoesTo b S1 e S'):GoesTo (.seq a b) S e S' :=
  fun g ac w hS hK Q hQ=>wp_seq (h1 g ac w hS hK _ fun rho' a' w' hS' hK'=>h2 { g with rho:=rho' } a' w' hS' hK' Q fun rho'' a'' w''=>hQ rho'' a'' w'')
theorem goesE:GoesTo jE (FJ 1023) .ret SeJ:=goes_of (n:=25) (L:=noL) (keep:=[4]) tAw_ok (noTL_ok _ _) (noLoops (by kernel_rfl)) (by kernel_rfl)
theorem goesB:GoesTo jB S0J .ret SeJ:=by
  rw [jB_eq]
  exact goesSeq goesA1 (goesSeq goesA2 (goesSeq goesA3 (goesSeq goesJ goesE)))
theorem finJ:finM X0 Tryz.f39 (decH (osP nX (okM 19999))) SeJ=some (.env (osP nX (okM 19998)) (.agg (cV bF))):=by kernel_rfl
theorem join_sound:SndM 39 (decH (osP nX (okM 19999))) [.ptr 50000 0,.agg (cExpr x2)] (.agg (cV bF)) (decH (osP nX (okM 19998))):=by
  have hR:ROk X0:=fun f ds b d h=>by cases h
  obtain ⟨h1,h2⟩:=fok 39 Tryz.f39 (by kernel_rfl)
  obtain ⟨os,d,he,hs⟩:=fnM_goes (X:=X0) xok (fn:=Tryz.f39) (cd:=jB) h1 h2 (by kernel_rfl) goesB (fun _ h=>by cases h) finJ
  simp only [D.env.injEq] at he
  obtain ⟨rfl,rfl⟩:=he
  exact hs
noncomputable def pJ:List (D Pl)→List (D Pl)→Option (Bool×D Pl×List (D Pl))
  | [.obB 50000 [.pl ⟨.binds,N⟩ .any,.int .i64 f,.int .i64 (.ofNat 0),.int .i64 (.ofNat 0),.int .i64 (.ofNat 0),.int .i64 (.ofNat 0),.str []]],[.ptr 50000 0,.agg cs]=>match exE cs with
    | some e=>some (Go.Proofs.YtlnkjdedeegajaaGreatDoor.cB (e=x2∧N=nX∧f=19999),.agg (cV bF),osP N (okM 19998))
    | none=>none
  | _,_=>none
theorem pJ_ok:∀os ds b d os',pJ os ds=some (b,d,os')→b=true→SndM 39 (decH os) ds d (decH os'):=by
  intro os ds b d os' hp hb
  unfold pJ at hp
  split at hp
  · rename_i N' f cs
    split at hp
    · rename_i e' he
      simp only [Option.some.injEq,Prod.mk.injEq] at hp
      obtain ⟨h3,rfl,rfl⟩:=hp
      rw [←h3] at hb
      obtain ⟨rfl,rfl,rfl⟩:e'=x2∧N'=nX∧f=19999:=@of_decide_eq_true _ (Classical.propDecidable _) hb
      rw [exE_eq he]
      exact join_sound
    · simp at hp
  · simp at hp
noncomputable def tA2:Eng.Told Pl:=tellM 39 pJ tAw
theorem tA2_ok:TOk tA2:=tellM_ok pJ_ok tAw_ok
theorem eOf2:ev tA2 TLX 25 12 [.str s2]=ck_ (Go.Proofs.YtlnkjdedeegajaaGreatDoor.cB (x2=x2∧nX=nX∧(19999:Int)=19999)) (some (.tup [.agg (cV bF),.agg cD0])):=by kernel_rfl
theorem of2_sound:Snd 12 [.str s2] (.tup [.agg (cV bF),.agg cD0]):=by
  refine snd_of tA2_ok TLX_ok (eOf2.trans (ck_t ?_ _))
  exact @decide_eq_true _ (Classical.propDecidable _) ⟨rfl,rfl,rfl⟩
def aOf (c:List (D Pl)):D Pl:=.tup [.agg c,.agg cD0]
def pOf:List (D Pl)→Option (Bool×D Pl)
  | [.str s]=>bif Nat.beq s.length 9 then some (s==s1,aOf (cV0 7)) else bif Nat.beq s.length 10 then some (s==s2,aOf (cV bF)) else some (s==s3,aOf (cV (listV [intV 2,intV 4])))
  | _=>none
theorem pOf_ok:∀ds b d,pOf ds=some (b,d)→b=true→Snd 12 ds d:=by
  intro ds b d h hb
  have key:∀(s s':Str) (c:List (D Pl)),Snd 12 [.str s'] (aOf c)→some (s==s',aOf c)=some (b,d)→Snd 12 [.str s] d:=by
    intro s s' c he h
    simp only [Option.some.injEq,Prod.mk.injEq] at h
    obtain ⟨rfl,rfl⟩:=h
    rw [beq_iff_eq] at hb
    subst hb
    exact he
  unfold pOf at h
  split at h
  · rename_i s
    cases h1:Nat.beq s.length 9 with
    | true=>rw [h1,cond_true] at h;exact key _ _ _ of1_sound h
    | false =>
      cases h2:Nat.beq s.length 10 with
      | true=>rw [h1,h2,cond_true,cond_false] at h;exact key _ _ _ of2_sound h
      | false=>rw [h1,h2,cond_false,cond_false] at h;exact key _ _ _ of3_sound h
  · simp at h
theorem eAw:ev (tell 12 pOf tell0) noTL 4 6 []=some (.bool true):=by kernel_rfl
theorem awake_sound:Snd 6 [] (.bool true):=snd_of (tell_ok pOf_ok (tell0_ok _)) (noTL_ok _ _) eAw
end Ev
theorem law_sound (n:Int) (hn:inR .u8 n=true):Snd 3 [.int .u8 n] (.bool true):=Ev.fuel_sound Ev.awake_sound n (inR_of hn).1
end Go.Proofs.YtlnkjdedeegajaaGreatDoor
