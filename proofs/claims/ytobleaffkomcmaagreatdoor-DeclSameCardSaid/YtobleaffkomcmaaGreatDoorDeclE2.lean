/-
  THE DOCUMENT's DECLARATIONS: what is wrong in a block, by its contract.
-/
import Derived.Test.YtobleaffkomcmaaGreatDoorDeclD
namespace Go.Proofs.YtobleaffkomcmaaGreatDoor
open Go.Eng
set_option maxRecDepth 100000
def SimR {γ:Type} (body:Code) (S0:St Pl) (out:γ→Ex×St Pl) (M:Option γ) (K:Option (Ex×St Pl)):Prop:=∀r,M=some r→(∀e S',K=some (e,S')→GoesTo body S0 e S')→Rnd body S0 (out r).1 (out r).2
section
variable {γ:Type} {body:Code} {S0:St Pl} {out:γ→Ex×St Pl}
theorem SimR.br {c:Bool} {M M':Option γ} {K K':Option (Ex×St Pl)} (h:c=true→SimR body S0 out M K) (h':c=false→SimR body S0 out M' K'):SimR body S0 out (bif c then M else M') (bif c then K else K'):=by
  cases c with
  | true=>exact h rfl
  | false=>exact h' rfl
theorem SimR.ck {c:Bool} (hc:c=true) {M:Option γ} {K:Option (Ex×St Pl)} (h:SimR body S0 out M K):SimR body S0 out M (ck_ c K):=by rw [ck_t hc];exact h
theorem SimR.stop {r:γ} {e:Ex} {S':St Pl} (he:e≠.normal) (ho:out r=(e,S')):SimR body S0 out (some r) (some (e,S')):=fun r' h hg=>by
  obtain rfl:=Option.some.inj h
  rw [ho]
  exact .stop he (hg _ _ rfl)
theorem SimR.step {M:Option γ} {S':St Pl} (h:∀r,M=some r→Rnd body S' (out r).1 (out r).2):SimR body S0 out M (some (.normal,S')):=fun r hr hg=>.step (hg _ _ rfl) (h r hr)
end
namespace Ins
abbrev InsQ:=ItemR→Str→List Str→DwR
noncomputable def pIns (n:Nat) (Q:InsQ):List (D Pl)→Option (Bool×D Pl)
  | [d,.str t,e]=>match asI d,asL .strs e with
    | some x,some lc=>some ((Nat.blt (isz x) n&&blkN x.name)&&Nat.ble lc.length 1000000000,.agg (cDw (Q x t lc)))
    | _,_=>none
  | _=>none
noncomputable def pAlw:List (D Pl)→Option (Bool×D Pl)
  | [.str b,.str t,d]=>match asI d with
    | some y=>some (blkN b,.agg (cDw (alM b t y)))
    | none=>none
  | _=>none
theorem pAlw_ok:∀ds b d,pAlw ds=some (b,d)→b=true→Snd 72 ds d:=by
  intro ds b d h hb
  unfold pAlw at h
  split at h
  · split at h
    · rename_i h1
      simp only [Option.some.injEq,Prod.mk.injEq] at h
      obtain ⟨rfl,rfl⟩:=h
      exact (al_sound _ _ _ hb).pre (.cons (RDle.refl _) (.cons (RDle.refl _) (.cons (asI_rdle h1) .nil)))
    · simp at h
  · simp at h
def SndIns (n:Nat) (Q:InsQ):Prop:=∀x t lc,isz x < n→blkN x.name=true→lc.length≤1000000000→Snd 35 [.agg (cItem x),.str t,.pl (pStrs lc) .any] (.agg (cDw (Q x t lc)))
theorem pIns_ok {n:Nat} {Q:InsQ} (hQ:SndIns n Q):∀ds b d,pIns n Q ds=some (b,d)→b=true→Snd 35 ds d:=by
  intro ds b d h hb
  unfold pIns at h
  split at h
  · split at h
    · rename_i h1 h2
      simp only [Option.some.injEq,Prod.mk.injEq] at h
      obtain ⟨rfl,rfl⟩:=h
      simp only [Bool.and_eq_true,Nat.blt_eq,Nat.ble_eq] at hb
      exact (hQ _ _ _ hb.1.1 hb.1.2 hb.2).pre (.cons (asI_rdle h1) (.cons (RDle.refl _) (.cons (asL_rdle h2) .nil)))
    · simp at h
  · simp at h
noncomputable def tIn (n:Nat) (Q:InsQ):Eng.Told Pl:=tell 33 pDi (tell 32 (pHasS fun l x=>.bool (hasS l x)) (tell 72 pAlw (tell 35 (pIns n Q) (tell 36 (pItS atT) (tell 70 (T11.pSt fun t=>(true,.pl (pAttrs (T11.attrsV t)) .any)) tell0)))))
theorem tIn_ok {n:Nat} {Q:InsQ} (hQ:SndIns n Q):TOk (tIn n Q):=tell_ok pDi_ok (tell_ok (pHasS_ok has_sound) (tell_ok pAlw_ok (tell_ok (pIns_ok hQ) (tell_ok atT_ok (tell_ok (T11.pSt_ok fun t _=>T11.Attrs_sound t) (tell0_ok _))))))
def rIn (d:DwR):St Pl:=mkS 247 [(6,.ptr 6 0)] [(6,.box false (cDw d))]
def FInR:Fix Pl:={ keep:=[6],lose:=[3,9,11,13,14,19,88,90,93,94,196,199,222],ord:=[6] }
def sIn (x:ItemR) (t:Str) (lc:List Str) (lv i:Int):St Pl:=mkS 247 [(1,.str t),(2,.pl (pStrs lc) .any),(3,.ptr 3 0),(6,.ptr 6 0),(7,dI lv),(8,dI i)] [(6,.box false dz),(3,.box false (cItem x))]
def rX (x:ItemR) (t:Str):St Pl:=mkS 247 [(1,.str t),(3,.ptr 3 0),(6,.ptr 6 0)] [(6,.box false dz),(3,.box false (cItem x))]
noncomputable def fIn:Fin:=finE { calm:=[94],keep:=[1,2,3,6,7,8],lose:=[9,11,13,14,88,90,93,94],ord:=[6,3] } { keep:=[1,3,6],lose:=[],ord:=[6,3] } FInR
def dgS (c:Int) (x:ItemR) (s:Str):Option (Ex×St Pl):=some (.ret,rIn ⟨c,x.p,s⟩)
theorem idsIn:(loopsAt 35).length=5∧firstId (loopAt 35 0)=3∧firstId (loopAt 35 1)=7∧firstId (loopAt 35 2)=21∧firstId (loopAt 35 3)=48∧firstId (loopAt 35 4)=53 :=
  ⟨by kernel_rfl,by kernel_rfl,by kernel_rfl,by kernel_rfl,by kernel_rfl,by kernel_rfl⟩
theorem inIn:loopsOf (loopAt 35 1)=[]∧loopsOf (loopAt 35 2)=[]∧loopsOf (loopAt 35 3)=[]∧loopsOf (loopAt 35 4)=[]∧loopsOf (loopAt 35 0)=[loopAt 35 1,loopAt 35 2] :=
  ⟨by kernel_rfl,by kernel_rfl,by kernel_rfl,by kernel_rfl,by kernel_rfl⟩
def sTx (x y:ItemR) (t:Str) (lc:List Str) (lv i k:Int):St Pl:=mkS 247 [(1,.str t),(2,.pl (pStrs lc) .any),(3,.ptr 3 0),(6,.ptr 6 0),(7,dI lv),(8,dI i),(9,.ptr 9 0),(10,dI k)] [(9,.box false (cItem y)),(6,.box false dz),(3,.box false (cItem x))]
def rTx (x y:ItemR) (t:Str) (lc:List Str) (lv i:Int):St Pl:=mkS 247 [(1,.str t),(2,.pl (pStrs lc) .any),(3,.ptr 3 0),(6,.ptr 6 0),(7,dI lv),(8,dI i),(9,.ptr 9 0)] [(9,.box false (cItem y)),(6,.box false dz),(3,.box false (cItem x))]
noncomputable def fTx:Fin:=finE { keep:=[1,2,3,6,7,8,9,10],ord:=[9,6,3] } { keep:=[1,2,3,6,7,8,9],ord:=[9,6,3] } FInR
theorem bTx (n:Nat) (Q:InsQ) (x y:ItemR) (t:Str) (lc:List Str) (lv:Int) (i k:Nat):evG (tIn n Q) noTL noL 1 (loopAt 35 1) fTx (sTx x y t lc lv i k) =
  bif (bif decide ((k:Int) < (i:Int)) then !y.block else false) then ix_ k x.items.length (ixo_ k x.items.length ((!((x.items.getD k default).block))==true) (bif isA x y.name k then dgS 10 y y.name else some (.normal,sTx x y t lc lv i (w64 ((k:Int)+1)))))
  else some (.exit 2,rTx x y t lc lv i):=by kernel_rfl
def LSTx (S:St Pl):Option (Bool×LR Pl):=match seenS 247 [1,2,3,6,7,8,9,10] S with
  | some ([.str t,.pl ⟨.strs,lc⟩ .any,.ptr 3 0,.ptr 6 0,.int .i64 lv,.int .i64 (.ofNat i),.ptr 9 0,.int .i64 (.ofNat 0)],[(9,.box false cy),(6,.box false [.int .i64 (.ofNat 0),.int .i64 (.ofNat 0),.int .i64 (.ofNat 0),.int .i64 (.ofNat 0),.str []]),(3,.box false cx)]) =>
    (match xItem cx,xItem cy with
    | some x,some y=>some (Nat.ble i x.items.length&&Nat.ble x.items.length big,.ite y.block (.leaf (.exit 2) (rTx x y t lc lv i)) (loopR i (fun k=>!(isA x y.name k)) (.exit 2) (rTx x y t lc lv i) .ret fun _=>rIn ⟨10,y.p,y.name⟩))
    | _,_=>none)
  | _=>none
theorem LSTx_ok {n:Nat} {Q:InsQ} (hQ:SndIns n Q):SOk X0 (loopAt 35 1) LSTx:=by
  intro S c r h hc
  unfold LSTx at h
  split at h
  · rename_i t lc lv i cy cx hs
    split at h
    · rename_i x y hx hy
      simp only [Option.some.injEq,Prod.mk.injEq] at h
      obtain ⟨rfl,rfl⟩:=h
      simp only [Bool.and_eq_true,Nat.ble_eq] at hc
      rw [xItem_eq hx,xItem_eq hy] at hs
      refine Goes.pre (keepOf [1,2,3,6,7,8,9,10]) ?_
      rw [seenS_mask hs]
      cases hb:y.block with
      | true =>
        refine loop_all (Sf:=fun _=>sTx x y t lc lv i 0) (n:=0) (by simp) (fun j hj=>by omega) (goes_ofG (tIn_ok hQ) (noTL_ok _ _) (finE_ok _ _ _) (noLoops inIn.1) ((bTx n Q x y t lc lv i 0).trans ?_))
        rw [hb]
        cases decide (((0:Nat):Int) < (i:Int))<;>rfl
      | false =>
        change Goes X0 _ _ (pickR (loopR i (fun k=>!(isA x y.name k)) (.exit 2) (rTx x y t lc lv i) .ret fun _=>rIn ⟨10,y.p,y.name⟩)).1 (pickR (loopR i (fun k=>!(isA x y.name k)) (.exit 2) (rTx x y t lc lv i) .ret fun _=>rIn ⟨10,y.p,y.name⟩)).2
        refine srch (tIn_ok hQ) (noLoops inIn.1) (finE_ok _ _ _) (k:=1) (Sf:=fun k=>sTx x y t lc lv i k) (show i≤big by omega) (by simp) (by simp) (fun k hk=>(bTx n Q x y t lc lv i k).trans ?_) ((bTx n Q x y t lc lv i i).trans ?_)
        · rw [decide_eq_true (show (k:Int) < (i:Int) by omega),hb,ix_t (show k < x.items.length by omega),ixo_t (show k < x.items.length by omega)]
          cases isA x y.name k<;>rfl
        · rw [decide_eq_false (show ¬ (i:Int) < (i:Int) by omega)];rfl
    · simp at h
  · simp at h
def sBo (x y:ItemR) (t:Str) (lc:List Str) (lv i k:Int):St Pl:=mkS 247 [(1,.str t),(2,.pl (pStrs lc) .any),(3,.ptr 3 0),(6,.ptr 6 0),(7,dI lv),(8,dI i),(9,.ptr 9 0),(12,dI k)] [(9,.box false (cItem y)),(6,.box false dz),(3,.box false (cItem x))]
noncomputable def fBo:Fin:=finE { keep:=[1,2,3,6,7,8,9,12],lose:=[13],ord:=[9,6,3] } { keep:=[1,2,3,6,7,8,9],lose:=[13],ord:=[9,6,3] } FInR
def bothX (x y:ItemR) (k:Nat):Bool:=let z:=x.items.getD k default
  bif (bif !z.block then z.name != y.name else false) then (bif z.name==n_count then true else z.name==n_for_each) else false
theorem bBo (n:Nat) (Q:InsQ) (x y:ItemR) (t:Str) (lc:List Str) (lv:Int) (i k:Nat):evG (tIn n Q) noTL noL 1 (loopAt 35 2) fBo (sBo x y t lc lv i k) =
  bif decide ((k:Int) < (i:Int)) then ix_ k x.items.length (bif bothX x y k then dgS 10 y y.name else some (.normal,sBo x y t lc lv i (w64 ((k:Int)+1))))
  else some (.exit 4,rTx x y t lc lv i):=by kernel_rfl
def FBh:Fix Pl:={ calm:=[94],keep:=[1,2,3,6,7,8,9,12],lose:=[11,88,90,93,94],ord:=[9,6,3] }
noncomputable def LSBo (S:St Pl):Option (Bool×LR Pl):=match seenS 247 [1,2,3,6,7,8,9,12] (fixS X0.C FBh S) with
  | some ([.str t,.pl ⟨.strs,lc⟩ .any,.ptr 3 0,.ptr 6 0,.int .i64 lv,.int .i64 (.ofNat i),.ptr 9 0,.int .i64 (.ofNat 0)],[(9,.box false cy),(6,.box false [.int .i64 (.ofNat 0),.int .i64 (.ofNat 0),.int .i64 (.ofNat 0),.int .i64 (.ofNat 0),.str []]),(3,.box false cx)]) =>
    (match xItem cx,xItem cy with
    | some x,some y=>some (Nat.ble i x.items.length&&Nat.ble x.items.length big,loopR i (fun k=>!(bothX x y k)) (.exit 4) (rTx x y t lc lv i) .ret fun _=>rIn ⟨10,y.p,y.name⟩)
    | _,_=>none)
  | _=>none
theorem LSBo_ok {n:Nat} {Q:InsQ} (hQ:SndIns n Q):SOk X0 (loopAt 35 2) LSBo:=by
  intro S c r h hc
  unfold LSBo at h
  split at h
  · rename_i t lc lv i cy cx hs
    split at h
    · rename_i x y hx hy
      simp only [Option.some.injEq,Prod.mk.injEq] at h
      obtain ⟨rfl,rfl⟩:=h
      simp only [Bool.and_eq_true,Nat.ble_eq] at hc
      rw [xItem_eq hx,xItem_eq hy] at hs
      refine Goes.weakPre (Weak.fix xok FBh S) (Goes.pre (keepOf [1,2,3,6,7,8,9,12]) ?_)
      rw [seenS_mask hs]
      refine srch (tIn_ok hQ) (noLoops inIn.2.1) (finE_ok _ _ _) (k:=1) (Sf:=fun k=>sBo x y t lc lv i k) (show i≤big by omega) (by simp) (by simp) (fun k hk=>(bBo n Q x y t lc lv i k).trans ?_) ((bBo n Q x y t lc lv i i).trans ?_)
      · rw [decide_eq_true (show (k:Int) < (i:Int) by omega),cond_true,ix_t (show k < x.items.length by omega)]
        cases bothX x y k<;>rfl
      · rw [decide_eq_false (show ¬ (i:Int) < (i:Int) by omega)];rfl
    · simp at h
  · simp at h
def sNd (x:ItemR) (l:List AttrR) (nd:List Str) (i:Int):St Pl:=mkS 247 [(3,.ptr 3 0),(6,.ptr 6 0),(15,.arr 222),(16,.pl (pAttrs l) .any),(17,dI i)] [(222,.arr false (pStrs nd)),(6,.box false dz),(3,.box false (cItem x))]
def rNd (x:ItemR) (nd:List Str):St Pl:=mkS 247 [(3,.ptr 3 0),(6,.ptr 6 0),(15,.arr 222)] [(222,.arr false (pStrs nd)),(6,.box false dz),(3,.box false (cItem x))]
noncomputable def fNd:Fin:=finE { keep:=[3,6,15,16,17],ord:=[222,6,3] } { keep:=[3,6,15],ord:=[222,6,3] } FInR
theorem bNd (n:Nat) (Q:InsQ) (x:ItemR) (l:List AttrR) (nd:List Str) (i:Nat):evG (tIn n Q) noTL noL 1 (loopAt 35 3) fNd (sNd x l nd i) =
  lt_ i l.length (ix_ i l.length (bif (l.getD i default).need then ix_ i l.length (apK 16 nd (l.getD i default).name fun o=>some (.normal,sNd x l o (w64 ((i:Int)+1)))) else some (.normal,sNd x l nd (w64 ((i:Int)+1))))) (some (.exit 7,rNd x nd)):=by kernel_rfl
def sNd0 (x:ItemR) (l:List AttrR):St Pl:=mkS 247 [(3,.ptr 3 0),(6,.ptr 6 0),(15,.nilS),(16,.pl (pAttrs l) .any),(17,dI 0)] [(6,.box false dz),(3,.box false (cItem x))]
theorem weakNd_eq (x:ItemR) (l:List AttrR):nilsS X0.C [(.slot 15,222,pStrs [])] (sNd0 x l)=sNd x l [] 0:=by kernel_rfl
theorem weakNd (x:ItemR) (l:List AttrR):Weak X0 (sNd0 x l) (sNd x l [] 0):=weakNd_eq x l ▸ Weak.nils xok [(.slot 15,222,pStrs [])] (sNd0 x l)
def needs (l:List AttrR):List Str:=(l.filter fun a=>a.need).map fun a=>a.name
theorem needs_take {l:List AttrR} {i:Nat} (h:i < l.length):needs (l.take (i+1))=bif (l.getD i default).need then needs (l.take i)++[(l.getD i default).name] else needs (l.take i):=by
  unfold needs
  rw [List.take_add_one,List.getElem?_eq_getElem h,Option.toList_some,List.filter_append,List.map_append,List.getD_eq_getElem?_getD,List.getElem?_eq_getElem h,Option.getD_some]
  cases hb:l[i].need<;>simp [hb]
theorem needs_len (l:List AttrR):(needs l).length≤l.length:=by
  unfold needs
  rw [List.length_map]
  exact List.length_filter_le _ _
def LSNd (S:St Pl):Option (Bool×LR Pl):=match seenS 247 [3,6,15,16,17] S with
  | some ([.ptr 3 0,.ptr 6 0,.nilS,.pl ⟨.attrs,l⟩ .any,.int .i64 (.ofNat 0)],[(6,.box false [.int .i64 (.ofNat 0),.int .i64 (.ofNat 0),.int .i64 (.ofNat 0),.int .i64 (.ofNat 0),.str []]),(3,.box false cx)]) =>
    (match xItem cx with
    | some x=>some (Nat.ble (l.length * 16) big,.leaf (.exit 7) (rNd x (needs l)))
    | _=>none)
  | _=>none
theorem LSNd_ok {n:Nat} {Q:InsQ} (hQ:SndIns n Q):SOk X0 (loopAt 35 3) LSNd:=by
  intro S c r h hc
  unfold LSNd at h
  split at h
  · rename_i l cx hs
    split at h
    · rename_i x hx
      simp only [Option.some.injEq,Prod.mk.injEq] at h
      obtain ⟨rfl,rfl⟩:=h
      simp only [Nat.ble_eq] at hc
      rw [xItem_eq hx] at hs
      refine Goes.pre (keepOf [3,6,15,16,17]) ?_
      rw [seenS_mask hs]
      refine Goes.weakPre (weakNd x l) ?_
      refine loop_all (Sf:=fun i:Nat=>sNd x l (needs (l.take i)) i) (n:=l.length) (by simp) (fun i hi=>goes_ofG (tIn_ok hQ) (noTL_ok _ _) (finE_ok _ _ _) (noLoops inIn.2.2.1) ((bNd n Q x l _ i).trans ?_)) (goes_ofG (tIn_ok hQ) (noTL_ok _ _) (finE_ok _ _ _) (noLoops inIn.2.2.1) ((bNd n Q x l _ l.length).trans ?_))
      · have hl:=needs_len (l.take i)
        rw [List.length_take] at hl
        rw [lt_t hi,ix_t hi,ix_t hi,apK_t (by omega),needs_take hi,show w64 ((i:Int)+1)=((i+1:Nat):Int) from wrap_nat (show i≤big by omega)]
        cases (l.getD i default).need<;>rfl
      · rw [lt_f (by omega),List.take_length]
    · simp at h
  · simp at h
def sMi (x:ItemR) (nd:List Str) (i:Int):St Pl:=mkS 247 [(3,.ptr 3 0),(6,.ptr 6 0),(15,.pl (pStrs nd) .any),(18,dI i)] [(6,.box false dz),(3,.box false (cItem x))]
def sMi0 (x:ItemR):St Pl:=mkS 247 [(3,.ptr 3 0),(6,.ptr 6 0),(15,.nilS),(18,dI 0)] [(6,.box false dz),(3,.box false (cItem x))]
noncomputable def fMi:Fin:=finE { keep:=[3,6,15,18],lose:=[19],ord:=[6,3] } { keep:=[6],lose:=[3],ord:=[6] } FInR
theorem bMi (n:Nat) (Q:InsQ) (x:ItemR) (nd:List Str) (i:Nat):evG (tIn n Q) noTL noL 1 (loopAt 35 4) fMi (sMi x nd i) =
  lt_ i nd.length (ix_ i nd.length (bif !(hasAt x (nd.getD i [])) then ix_ i nd.length (dgS 15 x (nd.getD i [])) else some (.normal,sMi x nd (w64 ((i:Int)+1))))) (some (.exit 9,rIn dw0)):=by kernel_rfl
theorem bMi0 (n:Nat) (Q:InsQ) (x:ItemR):evG (tIn n Q) noTL noL 1 (loopAt 35 4) fMi (sMi0 x)=some (.exit 9,rIn dw0):=by kernel_rfl
def FMh:Fix Pl:={ calm:=[196,199,222],keep:=[3,6,15,18],lose:=[196,199,222],ord:=[6,3] }
noncomputable def LSMi (S:St Pl):Option (Bool×LR Pl):=match seenS 247 [3,6,15,18] (fixS X0.C FMh S) with
  | some ([.ptr 3 0,.ptr 6 0,.pl ⟨.strs,nd⟩ .any,.int .i64 (.ofNat 0)],[(6,.box false [.int .i64 (.ofNat 0),.int .i64 (.ofNat 0),.int .i64 (.ofNat 0),.int .i64 (.ofNat 0),.str []]),(3,.box false cx)]) =>
    (match xItem cx with
    | some x=>some (Nat.ble nd.length big,loopR nd.length (fun i=>hasAt x (nd.getD i [])) (.exit 9) (rIn dw0) .ret fun i=>rIn ⟨15,x.p,nd.getD i []⟩)
    | _=>none)
  | some ([.ptr 3 0,.ptr 6 0,.nilS,.int .i64 (.ofNat 0)],[(6,.box false [.int .i64 (.ofNat 0),.int .i64 (.ofNat 0),.int .i64 (.ofNat 0),.int .i64 (.ofNat 0),.str []]),(3,.box false cx)]) =>
    (match xItem cx with
    | some _=>some (true,.leaf (.exit 9) (rIn dw0))
    | _=>none)
  | _=>none
theorem LSMi_ok {n:Nat} {Q:InsQ} (hQ:SndIns n Q):SOk X0 (loopAt 35 4) LSMi:=by
  intro S c r h hc
  unfold LSMi at h
  split at h
  · rename_i nd cx hs
    split at h
    · rename_i x hx
      simp only [Option.some.injEq,Prod.mk.injEq] at h
      obtain ⟨rfl,rfl⟩:=h
      simp only [Nat.ble_eq] at hc
      rw [xItem_eq hx] at hs
      refine Goes.weakPre (Weak.fix xok FMh S) (Goes.pre (keepOf [3,6,15,18]) ?_)
      rw [seenS_mask hs]
      refine srch (tIn_ok hQ) (noLoops inIn.2.2.2.1) (finE_ok _ _ _) (k:=1) (Sf:=fun i=>sMi x nd i) hc (by simp) (by simp) (fun i hi=>(bMi n Q x nd i).trans ?_) ((bMi n Q x nd nd.length).trans (lt_f (by omega) _ _))
      rw [lt_t hi,ix_t hi,ix_t hi]
      cases hasAt x (nd.getD i [])<;>rfl
    · simp at h
  · rename_i cx hs
    split at h
    · rename_i x hx
      simp only [Option.some.injEq,Prod.mk.injEq] at h
      obtain ⟨rfl,rfl⟩:=h
      rw [xItem_eq hx] at hs
      refine Goes.weakPre (Weak.fix xok FMh S) (Goes.pre (keepOf [3,6,15,18]) ?_)
      rw [seenS_mask hs]
      exact loop_all (Sf:=fun _=>sMi0 x) (n:=0) (by simp) (fun j hj=>by omega) (goes_ofG (tIn_ok hQ) (noTL_ok _ _) (finE_ok _ _ _) (noLoops inIn.2.2.2.1) (bMi0 n Q x))
    · simp at h
  · simp at h
noncomputable def lIn:LK Pl:=atL 7 LSTx (atL 21 LSBo noL)
theorem lIn_ok {n:Nat} {Q:InsQ} (hQ:SndIns n Q):∀b∈loopsOf (loopAt 35 0),LoopOk X0 lIn b:=by
  rw [inIn.2.2.2.2]
  intro b hb
  simp only [List.mem_cons,List.not_mem_nil,or_false] at hb
  rcases hb with rfl | rfl
  · exact atL_ok (fun _=>LSTx_ok hQ) fun h=>absurd idsIn.2.2.1 h
  · exact atL_ok (fun h=>absurd (idsIn.2.2.2.1.symm.trans h) (by decide)) fun _=>atL_ok (fun _=>LSBo_ok hQ) fun h=>absurd idsIn.2.2.2.1 h
def badB (x y:ItemR):Bool:=bif x.name != n_resource then true else bif (bif y.name != n_lifecycle then y.name != n_precondition else false) then y.name != n_postcondition else false
def cntB (x y:ItemR):Bool:=bif x.name==n_resource then (bif y.name==n_count then true else y.name==n_for_each) else false
section
variable {β:Type} (C:Bool→Option β→Option β) (A:List Str→Str→(List Str→Option β)→Option β) (ok1 ok2:ItemR→Bool) (Q:InsQ) (e:ItemR→ItemR) (x y:ItemR) (t:Str) (i:Nat) (N:List Str→Int→Option β) (R:DwR→Option β)
def cntK (lv:Int) (lc:List Str):Option β:=bif cntB x y then C (ok1 x) (bif noF (fun k=>!(bothX x (e y) k)) i then N lc lv else R ⟨10,y.p,y.name⟩) else N lc lv
def deepK (lc:List Str) (lv:Int):Option β:=bif decide ((y.labels.length:Int) > 0) then R ⟨1,y.p,y.name⟩ else C (ok2 (e y)) (bif (Q (e y) t []).c != 0 then R (Q (e y) t []) else N lc lv)
noncomputable def restK (lc:List Str) (lv:Int):Option β:=bif !y.block then C (blkN x.name) (bif (alM x.name t (e y)).c != 0 then R (alM x.name t (e y)) else bif x.name==n_locals then (bif hasS lc y.name then R ⟨10,y.p,y.name⟩ else A lc y.name (cntK C ok1 e x y i N R lv)) else cntK C ok1 e x y i N R lv lc)
    else bif badB x y then R ⟨9,y.p,y.name⟩ else bif y.name==n_lifecycle then (bif decide (w64 (lv+1) > 1) then R ⟨10,y.p,y.name⟩ else deepK C ok2 Q e y t N R lc (w64 (lv+1))) else deepK C ok2 Q e y t N R lc lv
noncomputable def inB (lc:List Str) (lv:Int):Option β:=C (ok1 x) (bif y.block then restK C A ok1 ok2 Q e x y t i N R lc lv else bif noF (fun k=>!(isA x y.name k)) i then restK C A ok1 ok2 Q e x y t i N R lc lv else R ⟨10,y.p,y.name⟩)
end
def apS (lc:List Str) (s:Str) (K:List Str→Option (Ex×St Pl)):Option (Ex×St Pl):=ck_ (true&&Nat.ble ((0+lc.length) * 16) big) (ck_ (true&&Nat.ble ((lc.length+1) * 16) big) (K (lc++[s])))
theorem bIn (n:Nat) (Q:InsQ) (x:ItemR) (t:Str) (lc:List Str) (lv:Int) (i:Nat):evG (tIn n Q) noTL lIn 1 (loopAt 35 0) fIn (sIn x t lc lv i) =
  lt_ i x.items.length (ix_ i x.items.length (inB ck_ apS (fun x=>Nat.ble i x.items.length&&Nat.ble x.items.length big) (fun y=>(Nat.blt (isz y) n&&blkN y.name)&&Nat.ble 0 1000000000) Q etaI x (x.items.getD i default) t i (fun lc lv=>some (.normal,sIn x t lc lv (w64 ((i:Int)+1)))) (fun d=>some (.ret,rIn d)) lc lv)) (some (.exit 0,rX x t)):=by kernel_rfl
noncomputable def inL (Q:InsQ) (x:ItemR) (t:Str):Nat→Nat→List Str→Int→Option (Option DwR)
  | 0,_,_,_=>some none
  | k+1,i,lc,lv=>inB (fun _ a=>a) (fun o s K=>K (o++[s])) (fun _=>true) (fun _=>true) Q id x (x.items.getD i default) t i (fun lc lv=>inL Q x t k (i+1) lc lv) (fun d=>some (some d)) lc lv
def outIn (x:ItemR) (t:Str):Option DwR→Ex×St Pl
  | some d=>(.ret,rIn d)
  | none=>(.exit 0,rX x t)
theorem badB_blk {x y:ItemR} (h:badB x y=false):blkN y.name=true:=by
  unfold badB at h
  cases h1:x.name != n_resource with
  | true=>rw [h1] at h;cases h
  | false =>
  rw [h1,cond_false] at h
  unfold blkN
  cases h2:y.name==n_lifecycle with
  | true=>simp only [cond_true];cases y.name==n_variable<;>cases y.name==n_locals<;>cases y.name==n_resource<;>cases y.name==n_output<;>cases y.name==n_check<;>rfl
  | false =>
  cases h3:y.name==n_precondition with
  | true=>simp only [cond_true];cases y.name==n_variable<;>cases y.name==n_locals<;>cases y.name==n_resource<;>cases y.name==n_output<;>cases y.name==n_check<;>rfl
  | false =>
  rw [show (y.name != n_lifecycle)=true by rw [bne,h2];rfl,show (y.name != n_precondition)=true by rw [bne,h3];rfl,cond_true,cond_true] at h
  rw [show (y.name==n_postcondition)=true by rw [bne] at h;simpa using h]
  cases y.name==n_variable<;>cases y.name==n_locals<;>cases y.name==n_resource<;>cases y.name==n_output<;>cases y.name==n_check<;>rfl
theorem in_rnd {n:Nat} {Q:InsQ} (hQ:SndIns n Q) (x:ItemR) (t:Str) (hb:blkN x.name=true) (hl:x.items.length * 288≤big) (hsz:∀y∈x.items,isz y < n) :
    ∀(k i:Nat) (lc:List Str) (lv:Int) (r:Option DwR),x.items.length - i=k→i≤x.items.length→lc.length≤1000000000+i→inL Q x t k i lc lv=some r→Rnd (loopAt 35 0) (sIn x t lc lv i) (outIn x t r).1 (outIn x t r).2
  | 0,i,lc,lv,r,hk,hi,hc,h=>by
    obtain rfl:i=x.items.length:=by omega
    obtain rfl:=Option.some.inj h
    exact .stop (by simp [outIn]) (goes_ofG (tIn_ok hQ) (noTL_ok _ _) (finE_ok _ _ _) (lIn_ok hQ) ((bIn n Q x t lc lv x.items.length).trans (lt_f (by omega) _ _)))
  | k+1,i,lc,lv,r,hk,hi,hc,h=>by
    have hbig:big=140737488355328:=rfl
    have hlt:i < x.items.length:=by omega
    have hw:w64 ((i:Int)+1)=((i+1:Nat):Int):=wrap_nat (by omega)
    have step:=fun e S' (h:_=some (e,S'))=>goes_ofG (tIn_ok hQ) (noTL_ok _ _) (finE_ok _ _ _) (lIn_ok hQ) ((bIn n Q x t lc lv i).trans h)
    rw [lt_t hlt,ix_t hlt,hw] at step
    have hok1:(Nat.ble i x.items.length&&Nat.ble x.items.length big)=true:=by rw [ble_t hi,ble_t (by omega)];rfl
    have hy:=hsz _ (getD_mem (d:=default) hlt)
    unfold inL at h
    generalize x.items.getD i default=y at *
    refine (?_:SimR (loopAt 35 0) (sIn x t lc lv i) (outIn x t) _ _) r h step
    have hR:∀d:DwR,SimR (loopAt 35 0) (sIn x t lc lv i) (outIn x t) (some (some d)) (some (.ret,rIn d)):=fun d=>.stop (by simp) rfl
    have hN:∀(lc':List Str) (lv':Int),lc'.length≤1000000000+(i+1)→SimR (loopAt 35 0) (sIn x t lc lv i) (outIn x t) (inL Q x t k (i+1) lc' lv') (some (.normal,sIn x t lc' lv' ((i+1:Nat):Int))) :=
      fun lc' lv' hc'=>.step fun r hr=>in_rnd hQ x t hb hl hsz k (i+1) lc' lv' r (by omega) (by omega) hc' hr
    have hcnt:∀(lc':List Str),lc'.length≤1000000000+(i+1)→SimR (loopAt 35 0) (sIn x t lc lv i) (outIn x t) (cntK (fun _ a=>a) (fun _=>true) id x y i (fun lc lv=>inL Q x t k (i+1) lc lv) (fun d=>some (some d)) lv lc') (cntK ck_ (fun x=>Nat.ble i x.items.length&&Nat.ble x.items.length big) etaI x y i (fun lc lv=>some (.normal,sIn x t lc lv ((i+1:Nat):Int))) (fun d=>some (.ret,rIn d)) lv lc'):=by
      intro lc' hc'
      unfold cntK
      rw [etaI_eq]
      exact .br (fun _=>.ck hok1 (.br (fun _=>hN _ _ hc') fun _=>hR _)) fun _=>hN _ _ hc'
    have hdeep:∀(lv':Int),blkN y.name=true→SimR (loopAt 35 0) (sIn x t lc lv i) (outIn x t) (deepK (fun _ a=>a) (fun _=>true) Q id y t (fun lc lv=>inL Q x t k (i+1) lc lv) (fun d=>some (some d)) lc lv') (deepK ck_ (fun y=>(Nat.blt (isz y) n&&blkN y.name)&&Nat.ble 0 1000000000) Q etaI y t (fun lc lv=>some (.normal,sIn x t lc lv ((i+1:Nat):Int))) (fun d=>some (.ret,rIn d)) lc lv'):=by
      intro lv' hyb
      unfold deepK
      rw [etaI_eq]
      exact .br (fun _=>hR _) fun _=>.ck (by show ((Nat.blt (isz y) n&&blkN y.name)&&Nat.ble 0 1000000000)=true;rw [blt_t hy,hyb];rfl) (.br (fun _=>hR _) fun _=>hN _ _ (by omega))
    have hrest:SimR (loopAt 35 0) (sIn x t lc lv i) (outIn x t) (restK (fun _ a=>a) (fun o s K=>K (o++[s])) (fun _=>true) (fun _=>true) Q id x y t i (fun lc lv=>inL Q x t k (i+1) lc lv) (fun d=>some (some d)) lc lv)
        (restK ck_ apS (fun x=>Nat.ble i x.items.length&&Nat.ble x.items.length big) (fun y=>(Nat.blt (isz y) n&&blkN y.name)&&Nat.ble 0 1000000000) Q etaI x y t i (fun lc lv=>some (.normal,sIn x t lc lv ((i+1:Nat):Int))) (fun d=>some (.ret,rIn d)) lc lv):=by
      unfold restK
      rw [etaI_eq]
      refine .br (fun _=>.ck hb (.br (fun _=>hR _) fun _=>.br (fun _=>.br (fun _=>hR _) fun _=>?_) fun _=>hcnt _ (by omega))) fun _=>.br (fun _=>hR _) fun hbad=>.br (fun _=>.br (fun _=>hR _) fun _=>hdeep _ (badB_blk hbad)) fun _=>hdeep _ (badB_blk hbad)
      unfold apS
      exact .ck (ble_t (by omega)) (.ck (ble_t (by omega)) (hcnt _ (by rw [List.length_append,List.length_singleton];omega)))
    unfold inB
    exact .ck hok1 (.br (fun _=>hrest) fun _=>.br (fun _=>hrest) fun _=>hR _)
theorem inL_some (Q:InsQ) (x:ItemR) (t:Str):∀(k i:Nat) (lc:List Str) (lv:Int),∃r,inL Q x t k i lc lv=some r
  | 0,_,_,_=>⟨_,rfl⟩
  | k+1,i,lc,lv=>by
    have br:∀{c:Bool} {a b:Option (Option DwR)},(∃r,a=some r)→(∃r,b=some r)→∃r,(bif c then a else b)=some r:=by intro c a b h1 h2;cases c<;>assumption
    have hN:=fun lc lv=>inL_some Q x t k (i+1) lc lv
    have hR:∀d:DwR,∃r,(some (some d):Option (Option DwR))=some r:=fun d=>⟨_,rfl⟩
    unfold inL inB restK cntK deepK
    repeat' first | exact hN _ _ | exact hR _ | apply br
def ndM (x:ItemR) (t:Str):List Str:=bif x.name==n_precondition then [n_if_] else bif x.name==n_postcondition then [n_if_] else bif x.name==n_check then [n_if_] else bif x.name==n_output then [n_value] else bif x.name==n_resource then needs (T11.attrsV t) else []
def poM (x:ItemR) (nd:List Str):DwR:=bif noF (fun i=>hasAt x (nd.getD i [])) nd.length then dw0 else ⟨15,x.p,nd.getD (ff (fun i=>hasAt x (nd.getD i [])) nd.length) []⟩
noncomputable def insM:Nat→InsQ
  | 0,_,_,_=>dw0
  | n+1,x,t,lc=>(prP (inL (insM n) x t x.items.length 0 lc 0)).getD (poM x (ndM x t))
noncomputable def LSIn (n:Nat) (Q:InsQ) (S:St Pl):Option (Bool×LR Pl):=match seenS 247 [1,2,3,6,7,8] S with
  | some ([.str t,.pl ⟨.strs,lc⟩ .any,.ptr 3 0,.ptr 6 0,.int .i64 (.ofNat 0),.int .i64 (.ofNat 0)],[(6,.box false [.int .i64 (.ofNat 0),.int .i64 (.ofNat 0),.int .i64 (.ofNat 0),.int .i64 (.ofNat 0),.str []]),(3,.box false cx)]) =>
    (match xItem cx with
    | some x=>some ((Nat.ble (x.items.length * 288) big&&blkN x.name)&&(Nat.blt (iszs x.items) n&&Nat.ble lc.length 1000000000),.ite (prP (inL Q x t x.items.length 0 lc 0)).isSome (.leaf .ret (rIn ((prP (inL Q x t x.items.length 0 lc 0)).getD dw0))) (.leaf (.exit 0) (rX x t)))
    | _=>none)
  | _=>none
theorem LSIn_ok {n:Nat} {Q:InsQ} (hQ:SndIns n Q):SOk X0 (loopAt 35 0) (LSIn n Q):=by
  intro S c r h hc
  unfold LSIn at h
  split at h
  · rename_i t lc cx hs
    split at h
    · rename_i x hx
      simp only [Option.some.injEq,Prod.mk.injEq] at h
      obtain ⟨rfl,rfl⟩:=h
      simp only [Bool.and_eq_true,Nat.ble_eq,Nat.blt_eq] at hc
      obtain ⟨⟨hl,hb⟩,hsz,hlc⟩:=hc
      rw [xItem_eq hx] at hs
      refine Goes.pre (keepOf [1,2,3,6,7,8]) ?_
      rw [seenS_mask hs]
      obtain ⟨q,hq⟩:=inL_some Q x t x.items.length 0 lc 0
      have:=(in_rnd hQ x t hb hl (fun y hy=>by have:=iszs_mem hy;omega) x.items.length 0 lc 0 q (by omega) (by omega) (by omega) hq).goes
      rw [hq]
      cases q with
      | none=>exact this
      | some d=>exact this
    · simp at h
  · simp at h
def okD2 (d:DwR):Option (D Pl):=some (.agg (cDw d))
def poK (x:ItemR) (nd:List Str):Option (D Pl):=ck_ (Nat.ble nd.length big) (bif noF (fun i=>hasAt x (nd.getD i [])) nd.length then okD2 dw0 else okD2 ⟨15,x.p,nd.getD (ff (fun i=>hasAt x (nd.getD i [])) nd.length) []⟩)
def uK (x:ItemR) (s:Str):Option (D Pl):=bif !(hasAt (etaI x) s) then okD2 ⟨15,x.p,s⟩ else okD2 dw0
def p1K (x:ItemR) (t:Str):Option (D Pl):=bif x.name==n_output then uK x n_value else bif x.name==n_resource then ck_ (Nat.ble ((T11.attrsV t).length * 16) big) (poK x (needs (T11.attrsV t))) else okD2 dw0
def postK (x:ItemR) (t:Str):Option (D Pl):=bif x.name==n_precondition then (bif x.name==n_precondition then uK x n_if_ else p1K x t) else bif x.name==n_postcondition then (bif x.name==n_postcondition then uK x n_if_ else p1K x t) else bif x.name==n_check then uK x n_if_ else p1K x t
end Ins
end Go.Proofs.YtobleaffkomcmaaGreatDoor
namespace Go.Proofs.YtobleaffkomcmaaGreatDoor
open Go.Eng
set_option maxRecDepth 100000
namespace Ins
theorem eIn (n:Nat) (Q:InsQ) (x:ItemR) (t:Str) (lc:List Str):evF (tIn n Q) noTL (atL 3 (LSIn n Q) (atL 48 LSNd (atL 53 LSMi lIn))) 1 Tryz.f35 [.agg (cItem x),.str t,.pl (pStrs lc) .any] =
  ck_ ((Nat.ble (x.items.length * 288) big&&blkN x.name)&&(Nat.blt (iszs x.items) n&&Nat.ble lc.length 1000000000)) (bif (prP (inL Q (etaI x) t x.items.length 0 lc 0)).isSome then okD2 ((prP (inL Q (etaI x) t x.items.length 0 lc 0)).getD dw0) else postK x t):=by kernel_rfl
theorem poK_eq {x:ItemR} {nd:List Str} (h:nd.length≤big):poK x nd=okD2 (poM x nd):=by
  unfold poK poM
  rw [ck_t (ble_t h)]
  cases noF (fun i=>hasAt x (nd.getD i [])) nd.length<;>rfl
theorem postK_eq (x:ItemR) (t:Str):postK x t=okD2 (poM x (ndM x t)):=by
  have hbig:big=140737488355328:=rfl
  have h1:∀s:Str,uK x s=okD2 (poM x [s]):=fun s=>by
    unfold uK poM noF
    rw [etaI_eq]
    simp only [List.length_singleton,ff,List.getD_cons_zero]
    cases hasAt x s<;>rfl
  have ha:=T11.attrs_len t
  have h2:poK x (needs (T11.attrsV t))=okD2 (poM x (needs (T11.attrsV t))):=poK_eq (by have:=needs_len (T11.attrsV t);omega)
  unfold postK p1K ndM
  rw [h1,h1,h2,ck_t (ble_t (by omega))]
  have h0:okD2 dw0=okD2 (poM x []):=rfl
  rw [h0]
  cases x.name==n_precondition<;>cases x.name==n_postcondition<;>cases x.name==n_check<;>cases x.name==n_output<;>cases x.name==n_resource<;>rfl
theorem ins_sound:∀n:Nat,SndIns n (insM n)
  | 0=>fun _ _ _ h=>by omega
  | n+1=>by
    intro x t lc hsz hb hlc
    have hQ:=ins_sound n
    have h5:∀i,i < (loopsAt 35).length→LoopOk X0 (atL 3 (LSIn n (insM n)) (atL 48 LSNd (atL 53 LSMi lIn))) (loopAt 35 i):=by
      intro i hi
      rw [idsIn.1] at hi
      have no:∀{j m k:Nat},firstId (loopAt 35 j)=m→m≠k→¬ (firstId (loopAt 35 j)=k):=fun h1 h2 h3=>h2 (h1.symm.trans h3)
      match i,hi with
      | 0,_=>exact atL_ok (fun _=>LSIn_ok hQ) fun h=>absurd idsIn.2.1 h
      | 1,_=>exact atL_ok (fun h=>absurd h (no idsIn.2.2.1 (by decide))) fun _=>atL_ok (fun h=>absurd h (no idsIn.2.2.1 (by decide))) fun _=>atL_ok (fun h=>absurd h (no idsIn.2.2.1 (by decide))) fun _=>atL_ok (fun _=>LSTx_ok hQ) fun h=>absurd idsIn.2.2.1 h
      | 2,_=>exact atL_ok (fun h=>absurd h (no idsIn.2.2.2.1 (by decide))) fun _=>atL_ok (fun h=>absurd h (no idsIn.2.2.2.1 (by decide))) fun _=>atL_ok (fun h=>absurd h (no idsIn.2.2.2.1 (by decide))) fun _=>atL_ok (fun h=>absurd h (no idsIn.2.2.2.1 (by decide))) fun _=>atL_ok (fun _=>LSBo_ok hQ) fun h=>absurd idsIn.2.2.2.1 h
      | 3,_=>exact atL_ok (fun h=>absurd h (no idsIn.2.2.2.2.1 (by decide))) fun _=>atL_ok (fun _=>LSNd_ok hQ) fun h=>absurd idsIn.2.2.2.2.1 h
      | 4,_=>exact atL_ok (fun h=>absurd h (no idsIn.2.2.2.2.2 (by decide))) fun _=>atL_ok (fun h=>absurd h (no idsIn.2.2.2.2.2 (by decide))) fun _=>atL_ok (fun _=>LSMi_ok hQ) fun h=>absurd idsIn.2.2.2.2.2 h
    refine SoundAt.rooms fun hroom=>snd_fn (n:=1) (tIn_ok hQ) (noTL_ok _ _) (f:=35) (fn:=Tryz.f35) (by kernel_rfl) (loops_of (f:=35) (fn:=Tryz.f35) (by kernel_rfl) h5) ((eIn n (insM n) x t lc).trans ?_)
    have hr:Room _ (.agg (cItem x)):=hroom _ (by simp)
    have hk:x.items.length * 288≤big:=hr (.pl (pItems x.items) .any) (by simp [cItem])
    have hs:=isz_eq x
    rw [ck_t (by rw [ble_t hk,hb,blt_t (by omega),ble_t hlc];rfl),etaI_eq,postK_eq]
    show _=some (D.agg (cDw ((prP (inL (insM n) x t x.items.length 0 lc 0)).getD (poM x (ndM x t)))))
    cases prP (inL (insM n) x t x.items.length 0 lc 0)<;>rfl
end Ins
end Go.Proofs.YtobleaffkomcmaaGreatDoor
