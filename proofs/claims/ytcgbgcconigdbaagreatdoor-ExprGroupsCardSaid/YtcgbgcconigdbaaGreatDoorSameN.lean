/-
 WHETHER TWO TREES ARE ONE (the document's 'Same'), places not seen: of trees that are one.
-/
import Derived.Test.YtcgbgcconigdbaaGreatDoorEqv6
namespace Go.Proofs.YtcgbgcconigdbaaGreatDoor.Rd
open Go.Eng
set_option maxRecDepth 100000
def pn1 (f:ExprR→Bool×D Pl):List (D Pl)→Option (Bool×D Pl)
 | [d]=>match asN d with
  | some a=>some (f a)
  | none=>none
 | _=>none
theorem pn1_ok {g:FuncId} {f:ExprR→Bool×D Pl} (h:∀a,(f a).1=true→Snd g [.agg (cExN a)] (f a).2):∀ds b d,pn1 f ds=some (b,d)→b=true→Snd g ds d:=by
 intro ds b d hp hb
 unfold pn1 at hp
 split at hp
 ·split at hp
  ·rename_i ha
   simp only [Option.some.injEq] at hp
   have h1:=h _ (by rw [hp];exact hb)
   rw [hp] at h1
   exact h1.pre (.cons (asN_rdle ha) .nil)
  ·simp at hp
 ·simp at hp
theorem getD_mem {α:Type} {l:List α} {i:Nat} {d:α} (h:i < l.length):l.getD i d∈l:=by
 rw [List.getD_eq_getElem?_getD,List.getElem?_eq_getElem h]
 exact List.getElem_mem h
def tD (n:Nat):Eng.Told Pl:=tell 8 (pn1 fun a=>(Nat.blt (esz a) n,dI (dpth n a))) tell0
def s11 (e:ExprR) (l:List ExprR) (x i:Int):St Pl:=mkS 20 [(3,dI x),(7,.pl (pExprs l) .any),(8,dI l.length),(9,dI i)] [(1,.box false (cExN e))]
theorem b11 (e:ExprR) (l:List ExprR) (n:Nat) (x:Int) (i:Nat):evD (tD n) noTL noL 1 (loopAt 8 0) [3,7,8,9] [5] (s11 e l x i) =
  lt_ i l.length (ix_ i l.length (ck_ (Nat.blt (esz (nP (l.getD i default))) n) (some (.normal,s11 e l (mx (dpth n (nP (l.getD i default))) x) (IntKind.i64.wrap ((i:Int)+1)))))) (some (.exit 0,s11 e l x i)):=by kernel_rfl
theorem ids11:(loopsAt 8).length=1∧firstId (loopAt 8 0)=3∧loopsOf (loopAt 8 0)=[]:=⟨by kernel_rfl,by kernel_rfl,by kernel_rfl⟩
def LS11 (n:Nat) (S:St Pl):Option (Bool×LR Pl):=match seenS 20 [3,7,8,9] S with
 | some ([.int .i64 (.ofNat 0),.pl ⟨.exprs,l⟩ .any,.int .i64 k,.int .i64 (.ofNat 0)],[(1,.box false c)])=>match exN c with
  | some e=>some (k==(l.length:Int)&&(Nat.ble l.length big&&Nat.blt (eszs l) n),.leaf (.exit 0) (s11 e l (accD (dpth n) l l.length) l.length))
  | none=>none
 | _=>none
theorem esz_nP (e:ExprR):esz (nP e)=esz e:=by rw [esz_eq,esz_eq e];rfl
theorem dpth_nP (n:Nat) (e:ExprR):dpth n (nP e)=dpth n e:=by cases n<;>rfl
theorem LS11_ok {n:Nat} (hT:TOk (tD n)):SOk X0 (loopAt 8 0) (LS11 n):=by
 intro S c r h hc
 unfold LS11 at h
 split at h
 ·rename_i l k ce hs
  split at h
  ·rename_i e he
   simp only [Option.some.injEq,Prod.mk.injEq] at h
   obtain ⟨rfl,rfl⟩:=h
   simp only [Bool.and_eq_true,Nat.ble_eq,Nat.blt_eq,beq_iff_eq] at hc
   obtain ⟨rfl,hb,hsz⟩:=hc
   obtain rfl:=exN_eq he
   refine Goes.pre (keepOf [3,7,8,9]) ?_
   rw [seenS_mask hs]
   refine loop_all (Sf:=fun i=>s11 e l (accD (dpth n) l i) i) (n:=l.length) (by simp) (fun i hi=>?_) ?_
   ·refine goes_ofD hT (noTL_ok _ _) (noLoops ids11.2.2) ((b11 e l n _ i).trans ?_)
    have:=eszs_mem (getD_mem (d:=default) hi)
    rw [lt_t hi,ix_t hi,esz_nP,dpth_nP,ck_t (blt_t (by omega)),wrap_nat (show i≤big by omega)]
    rfl
   ·exact goes_ofD hT (noTL_ok _ _) (noLoops ids11.2.2) ((b11 e l n _ l.length).trans (by rw [lt_f (by omega)]))
  ·simp at h
 ·simp at h
theorem eDp (e:ExprR) (n:Nat):evF (tD n) noTL (atL 3 (LS11 n) noL) 1 Tryz.f8 [.agg (cExN e)] =
  ck_ (((e.l.length:Int)==(e.l.length:Int))&&(Nat.ble e.l.length big&&Nat.blt (eszs e.l) n)) (some (dI (IntKind.i64.wrap (accD (dpth n) e.l e.l.length+1)))):=by kernel_rfl
theorem depth_n:∀n e,esz e < n→Snd 8 [.agg (cExN e)] (dI (dpth n e)):=by
 intro n
 induction n with
 | zero=>intro e h;omega
 | succ n ih =>
  intro e hlt
  have hT:TOk (tD n):=tell_ok (pn1_ok fun a h=>ih a (by simp only [Nat.blt_eq] at h;exact h)) (tell0_ok _)
  have h1:eszs e.l < n:=by have:=esz_eq e;omega
  refine SoundAt.rooms fun hroom=>snd_fn (n:=1) hT (noTL_ok _ _) (fn:=Tryz.f8) (by kernel_rfl) (loops_of (f:=8) (fn:=Tryz.f8) (by kernel_rfl) (loops_1 ids11.1 (atL_ok (fun _=>LS11_ok hT) fun h=>absurd ids11.2.1 h))) ((eDp e n).trans ?_)
  have hr:Room _ (.agg (cExN e)):=hroom _ (by simp)
  have hk:e.l.length * 192≤big:=hr (.pl (pExprs e.l) .any) (by simp [cExN])
  rw [ck_t (by rw [beq_self_eq_true,ble_t (by omega),blt_t h1];rfl)]
  rfl
theorem depth_sound (e:ExprR):Snd 8 [.agg (cExN e)] (dI (deepE e)):=depth_n _ e (Nat.lt_succ_self _)
def tPa (W:Whl):Eng.Told Pl:=tell 7 (pWh W) (tell 8 (pn1 fun a=>(true,dI (deepE a))) (tell 9 pAll tell0))
theorem tPa_ok {W:Whl} (hW:SndW W):TOk (tPa W):=tell_ok (pWh_ok hW) (tell_ok (pn1_ok fun a _=>depth_sound a) (tell_ok pAll_ok (tell0_ok _)))
def paR (e:ExprR) (c:Int) (p:PosR):Option (D Pl):=bif !(c==0) then some (.tup [.agg zC0,.agg (dgC c p)]) else some (.tup [.agg (cExN e),.agg (dgC c p)])
def paK (s:Str) (e:ExprR) (c:Int) (p:PosR):Option (D Pl) :=
 bif (c==0)==true then (bif decide (deepE (nP e) > 24) then ck_ ((true&&decide ((0:Int) < ((allM s).l.length:Int)))||false) (some (.tup [.agg zC0,.agg (dgC 12 ((allM s).l.getD (Int.toNat 0) default).p)])) else paR e c p) else paR e c p
theorem ePa (W:Whl) (s:Str):ev (tPa W) noTL 3 5 [.str s]=ck_ (okW (W s)) (paK s (gotW (W s)).1 (gotW (W s)).2.1 (gotW (W s)).2.2):=by kernel_rfl
end Go.Proofs.YtcgbgcconigdbaaGreatDoor.Rd
namespace Go.Proofs.YtcgbgcconigdbaaGreatDoor.Rd
open Go.Eng
set_option maxRecDepth 100000
def sdB (a b:Val):Bool:=bif (bif (bif (bif (bif (bif a.kind != b.kind then true else a.i != b.i) then true else !(a.s==b.s)) then true else !(a.tk==b.tk&&(a.tof==b.tof&&true))) then true else !(a.sec==b.sec)) then true else false) then true else false
def cVN (v:Val) (l:List Val) (ks:List Str):List (D Pl):=[dI v.kind,dI v.i,.str v.s,.pl (pVals l) .any,.pl (pStrs ks) .any,dI v.tk,dI v.tof,.bool v.sec]
theorem eSv (a b:Val):ev tell0 noTL 3 10 [.agg (cVN a [] []),.agg (cVN b [] []),.bool true]=bif sdB a b then some (.bool false) else some (.bool true):=by kernel_rfl
def pSv:List (D Pl)→Option (Bool×D Pl)
 | [.agg [.int .i64 k,.int .i64 i,.str s,.pl ⟨.vals,l⟩ .any,.pl ⟨.strs,ks⟩ .any,.int .i64 tk,.int .i64 tof,.bool sec],.agg [.int .i64 k',.int .i64 i',.str s',.pl ⟨.vals,l'⟩ .any,.pl ⟨.strs,ks'⟩ .any,.int .i64 tk',.int .i64 tof',.bool sec'],.bool true] =>
  some ((l.isEmpty&&ks.isEmpty)&&(l'.isEmpty&&ks'.isEmpty),.bool (!(sdB ⟨k,i,s,l,ks,tk,tof,sec⟩ ⟨k',i',s',l',ks',tk',tof',sec'⟩)))
 | _=>none
theorem pSv_ok:∀ds b d,pSv ds=some (b,d)→b=true→Snd 10 ds d:=by
 intro ds b d h hb
 unfold pSv at h
 split at h
 ·rename_i k i s l ks tk tof sec k' i' s' l' ks' tk' tof' sec'
  simp only [Option.some.injEq,Prod.mk.injEq] at h
  obtain ⟨h1,rfl⟩:=h
  rw [←h1] at hb
  simp only [Bool.and_eq_true,List.isEmpty_iff] at hb
  obtain ⟨⟨rfl,rfl⟩,rfl,rfl⟩:=hb
  refine snd_of (n:=3) (tell0_ok _) (noTL_ok _ _) ((eSv ⟨k,i,s,[],[],tk,tof,sec⟩ ⟨k',i',s',[],[],tk',tof',sec'⟩).trans ?_)
  cases sdB ⟨k,i,s,[],[],tk,tof,sec⟩ ⟨k',i',s',[],[],tk',tof',sec'⟩<;>rfl
 ·simp at h
theorem sdB_self (v:Val):sdB v v=false:=by unfold sdB;simp
def One (n:Nat) (a b:ExprR):Prop:=noP a=noP b∧Bare a∧esz a < n
noncomputable def p8 (n:Nat):List (D Pl)→Option (Bool×D Pl)
 | [d,e,.bool false]=>match asN d,asN e with
  | some a,some b=>some (goodB (One n a b),.bool true)
  | _,_=>none
 | _=>none
noncomputable def t8 (n:Nat):Eng.Told Pl:=tell 10 pSv (tell 6 (p8 n) tell0)
def s8 (a b:ExprR) (i:Int):St Pl:=mkS 74 [(2,.bool false),(3,.ptr 3 0),(4,.ptr 4 0),(6,.bool false),(7,dI i)] [(4,.box false (cExN b)),(3,.box false (cExN a))]
def r8 (a b:ExprR):St Pl:=mkS 74 [(2,.bool false),(3,.ptr 3 0),(4,.ptr 4 0),(6,.bool false)] [(4,.box false (cExN b)),(3,.box false (cExN a))]
theorem b8 (a b:ExprR) (n i:Nat):evC (t8 n) noTL noL 1 (loopAt 6 0) [2,3,4,6,7] (s8 a b i) =
  lt_ i a.l.length (ix_ i a.l.length (ix_ i b.l.length (ck_ (goodB (One n (nP (a.l.getD i default)) (nP (b.l.getD i default)))) (some (.normal,s8 a b (IntKind.i64.wrap ((i:Int)+1))))))) (some (.exit 0,s8 a b i)):=by kernel_rfl
theorem ids8:(loopsAt 6).length=1∧firstId (loopAt 6 0)=4∧loopsOf (loopAt 6 0)=[]:=⟨by kernel_rfl,by kernel_rfl,by kernel_rfl⟩
def Ones (n:Nat) (a b:ExprR):Prop:=noPs a.l=noPs b.l∧(∀x,x∈a.l→Bare x)∧eszs a.l < n∧a.l.length≤big
noncomputable def LS8s (n:Nat) (S:St Pl):Option (Bool×LR Pl):=match seenS 74 [2,3,4,6,7] S with
 | some ([.bool false,.ptr 3 0,.ptr 4 0,.bool false,.int .i64 (.ofNat 0)],[(4,.box false cb),(3,.box false ca)])=>match exN ca,exN cb with
  | some a,some b=>some (goodB (Ones n a b),.leaf (.exit 0) (r8 a b))
  | _,_=>none
 | _=>none
theorem noPs_map (l:List ExprR):noPs l=l.map noP:=by
 induction l with
 | nil=>rfl
 | cons x r ih=>simp only [noPs,List.map_cons,ih]
theorem noPs_get {a b:List ExprR} (h:noPs a=noPs b) {i:Nat} (hi:i < a.length):i < b.length∧noP (a.getD i default)=noP (b.getD i default):=by
 rw [noPs_map,noPs_map] at h
 have hl:a.length=b.length:=by have:=congrArg List.length h;simpa using this
 refine ⟨by omega,?_⟩
 have:=congrArg (fun l=>l[i]?) h
 simp only [List.getElem?_map,List.getElem?_eq_getElem hi,List.getElem?_eq_getElem (show i < b.length by omega),Option.map_some,Option.some.injEq] at this
 rw [List.getD_eq_getElem?_getD,List.getD_eq_getElem?_getD,List.getElem?_eq_getElem hi,List.getElem?_eq_getElem (show i < b.length by omega)]
 exact this
theorem bare_nP' {e:ExprR} (h:Bare e):Bare (nP e):=Eqv.bare_nP h
theorem LS8s_ok {n:Nat} (hT:TOk (t8 n)):SOk X0 (loopAt 6 0) (LS8s n):=by
 intro S c r h hc
 unfold LS8s at h
 split at h
 ·rename_i cb ca hs
  split at h
  ·rename_i a b ha hb
   simp only [Option.some.injEq,Prod.mk.injEq] at h
   obtain ⟨rfl,rfl⟩:=h
   obtain ⟨hn,hbr,hsz,hbig⟩:=of_goodB hc
   obtain rfl:=exN_eq ha
   obtain rfl:=exN_eq hb
   refine Goes.pre (keepOf [2,3,4,6,7]) ?_
   rw [seenS_mask hs]
   refine loop_all (Sf:=fun i=>s8 a b i) (n:=a.l.length) (by simp) (fun i hi=>?_) ?_
   ·obtain ⟨h1,h2⟩:=noPs_get hn hi
    have hm:=getD_mem (d:=default) hi
    have:=eszs_mem hm
    refine goes_of hT (noTL_ok _ _) (noLoops ids8.2.2) ((b8 a b n i).trans ?_)
    rw [lt_t hi,ix_t hi,ix_t h1,ck_t (goodB_t ⟨by rw [Eqv.noP_nP,Eqv.noP_nP,h2],bare_nP' (hbr _ hm),by rw [esz_nP];omega⟩),wrap_nat (show i≤big by omega)]
   ·exact (goes_of hT (noTL_ok _ _) (noLoops ids8.2.2) ((b8 a b n a.l.length).trans (show _=some (.exit 0,s8 a b a.l.length) by rw [lt_f (by omega)]))).post (keepOf [2,3,4,6])
  ·simp at h
 ·simp at h
def n8 (a b:ExprR):Bool:=bif (bif a.op != b.op then true else !(a.s==b.s)) then true else !(a.s2==b.s2)
theorem e8 (a b:ExprR) (n:Nat):evF (t8 n) noTL (atL 4 (LS8s n) noL) 1 Tryz.f6 [.agg (cExN a),.agg (cExN b),.bool false] =
  bif (n8 a b==false) then ck_ ((a.v.l.isEmpty&&a.v.keys.isEmpty)&&(b.v.l.isEmpty&&b.v.keys.isEmpty)) (bif (bif (bif !(!(sdB a.v b.v)) then true else ((a.l.length:Int) != (b.l.length:Int))) then true else false) then some (.bool false)
   else ck_ (goodB (Ones n a b)) (some (.bool true))) else some (.bool false):=by kernel_rfl
theorem one_inv {a b:ExprR} (h:noP a=noP b):a.op=b.op∧a.s=b.s∧a.s2=b.s2∧a.v=b.v∧noPs a.l=noPs b.l:=by
 rw [noP_eq,noP_eq b] at h
 simp only [ExprR.mk.injEq] at h
 exact ⟨h.1,h.2.1,h.2.2.1,h.2.2.2.1,h.2.2.2.2.1⟩
theorem bare_inv {a:ExprR} (h:Bare a):a.v.l=[]∧a.v.keys=[]∧∀x,x∈a.l→Bare x:=by
 cases h with
 | mk _ h1 h2 h3=>exact ⟨h1,h2,h3⟩
theorem same_n:∀n a b,One n a b→Snd 6 [.agg (cExN a),.agg (cExN b),.bool false] (.bool true):=by
 intro n
 induction n with
 | zero=>intro a b h;exact absurd h.2.2 (by omega)
 | succ n ih =>
  intro a b h
  obtain ⟨hn,hb,hz⟩:=h
  have hT:TOk (t8 n):=tell_ok pSv_ok (tell_ok (fun ds c d hp hc=>by
   unfold p8 at hp
   split at hp
   ·split at hp
    ·rename_i h1 h2
     simp only [Option.some.injEq,Prod.mk.injEq] at hp
     obtain ⟨rfl,rfl⟩:=hp
     exact (ih _ _ (of_goodB hc)).pre (.cons (asN_rdle h1) (.cons (asN_rdle h2) (.cons (RDle.refl _) .nil)))
    ·simp at hp
   ·simp at hp) (tell0_ok _))
  obtain ⟨i1,i2,i3,i4,i5⟩:=one_inv hn
  obtain ⟨j1,j2,j3⟩:=bare_inv hb
  refine SoundAt.rooms fun hroom=>snd_fn (n:=1) hT (noTL_ok _ _) (fn:=Tryz.f6) (by kernel_rfl) (loops_of (f:=6) (fn:=Tryz.f6) (by kernel_rfl) (loops_1 ids8.1 (atL_ok (fun _=>LS8s_ok hT) fun h=>absurd ids8.2.1 h))) ((e8 a b n).trans ?_)
  have hr:Room _ (.agg (cExN a)):=hroom _ (by simp)
  have hk:a.l.length * 192≤big:=hr (.pl (pExprs a.l) .any) (by simp [cExN])
  have hlen:a.l.length=b.l.length:=by
   have:=congrArg List.length i5
   rw [noPs_map,noPs_map,List.length_map,List.length_map] at this
   exact this
  have hn8:n8 a b=false:=by unfold n8;rw [i1,i2,i3];simp
  have:=esz_eq a
  rw [hn8,←i4,j1,j2,sdB_self,goodB_t (show Ones n a b from ⟨i5,j3,by omega,by omega⟩),show ((a.l.length:Int) != (b.l.length:Int))=false by rw [hlen];simp]
  rfl
theorem same_sound {a b:ExprR} (h:noP a=noP b) (hb:Bare a):Snd 6 [.agg (cExN a),.agg (cExN b),.bool false] (.bool true):=same_n (esz a+1) a b ⟨h,hb,Nat.lt_succ_self _⟩
theorem deepE_nP (e:ExprR):deepE (nP e)=deepE e:=by
 unfold deepE
 rw [esz_nP,dpth_nP]
def parseP (W:Whl):Whl:=fun s=>match W s with
 | none=>none
 | some (e,c,p)=>bif c==0 then (bif decide (deepE e > 24) then (bif Nat.blt 0 (allM s).l.length then some (e00,12,((allM s).l.getD 0 default).p) else none) else some (e,0,p)) else some (e00,c,p)
def SndPa (V:Whl):Prop:=∀s e c p,V s=some (e,c,p)→Snd 5 [.str s] (.tup [.agg (cExN e),.agg (dgC c p)])
theorem pa_sound {W:Whl} (hW:SndW W):SndPa (parseP W):=by
 intro s e c p h
 have keyN:=fun (d:D Pl) (h:ev (tPa W) noTL 3 5 [.str s]=some (.tup [.agg zC0,d]))=>show Snd 5 [.str s] (.tup [.agg (cExN e00),d]) from
  SoundAt.post (RDle.tup (.cons (asN_rdle rfl) (.cons (RDle.refl _) .nil))) (snd_of (tPa_ok hW) (noTL_ok _ _) h)
 have keyE:=fun (d:D Pl) (h:ev (tPa W) noTL 3 5 [.str s]=some d)=>show Snd 5 [.str s] d from snd_of (tPa_ok hW) (noTL_ok _ _) h
 unfold parseP at h
 cases hw:W s with
 | none=>rw [hw] at h;cases h
 | some q =>
  obtain ⟨e1,c1,p1⟩:=q
  rw [hw] at h
  simp only at h
  have hE:=ePa W s
  rw [hw] at hE
  have hE:ev (tPa W) noTL 3 5 [.str s]=paK s e1 c1 p1:=hE
  unfold paK at hE
  rw [deepE_nP] at hE
  cases hc:c1==0 with
  | false =>
   rw [hc] at h hE
   simp only [cond_false,Option.some.injEq,Prod.mk.injEq] at h
   obtain ⟨rfl,rfl,rfl⟩:=h
   exact keyN _ (hE.trans (by unfold paR;rw [hc];rfl))
  | true =>
   rw [hc] at h hE
   cases hd:decide (deepE e1 > 24) with
   | true =>
    rw [hd] at h hE
    simp only [cond_true] at h
    cases hl:Nat.blt 0 (allM s).l.length with
    | false=>rw [hl] at h;cases h
    | true =>
     rw [hl] at h
     simp only [cond_true,Option.some.injEq,Prod.mk.injEq] at h
     obtain ⟨rfl,rfl,rfl⟩:=h
     rw [Nat.blt_eq] at hl
     exact keyN _ (hE.trans (by rw [decide_eq_true (show (0:Int) < ((allM s).l.length:Int) by omega)];rfl))
   | false =>
    rw [hd] at h hE
    simp only [cond_true,cond_false,Option.some.injEq,Prod.mk.injEq] at h
    obtain ⟨rfl,rfl,rfl⟩:=h
    have hc0:c1=0:=beq_iff_eq.1 hc
    subst hc0
    exact keyE _ (hE.trans rfl)
end Go.Proofs.YtcgbgcconigdbaaGreatDoor.Rd
