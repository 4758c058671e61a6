/-
 THE LAW ON BRACKETS: what it comes to.
-/
import Derived.Test.YtcgbgcconigdbaaGreatDoorAwakeG
namespace Go.Proofs.YtcgbgcconigdbaaGreatDoor.Rd
open Go.Eng
set_option maxRecDepth 100000
def sG (n:Int) (t:Str) (i:Int) (hs:Obs Pl):St Pl:=mkS 52 [(1,.int .u8 n),(4,.bool false),(5,.ptr 5 0),(6,.ptr 6 0),(7,.str t),(8,dI i)] hs
theorem bG (n:Int) (t:Str) (i:Nat) (hs:Obs Pl):evC tell0 noTL noL 1 (loopAt 3 0) [1,4,5,6,7,8] (sG n t i hs) =
  bif decide ((i:Int) < IntKind.i64.wrap (Int.tmod n 9)) then ck_ (Nat.ble (1+t.length) big||false) (ck_ (Nat.ble ((([40]:Str)++t).length+2) big||false) (some (.normal,sG n (([40]:Str)++t++[10,41]) (IntKind.i64.wrap ((i:Int)+1)) hs))) else some (.exit 0,sG n t i hs):=by kernel_rfl
theorem idsG:(loopsAt 3).length=1∧firstId (loopAt 3 0)=6∧loopsOf (loopAt 3 0)=[]:=⟨by kernel_rfl,by kernel_rfl,by kernel_rfl⟩
def nG (n:Int):Nat:=(n % 9).toNat
theorem nG_le (n:Int):nG n≤8:=by unfold nG;omega
theorem nG_eq {n:Int} (h:0≤n):IntKind.i64.wrap (Int.tmod n 9)=(nG n:Int):=by
 have h1:Int.tmod n 9=n % 9:=Int.tmod_eq_emod_of_nonneg h
 have h2:((nG n:Nat):Int)=n % 9:=by unfold nG;omega
 rw [h1,h2]
 exact wrap_in _ (by omega)
def LSG (S:St Pl):Option (Bool×LR Pl):=match seenS 52 [1,4,5,6,7,8] S with
 | some ([.int .u8 n,.bool false,.ptr 5 0,.ptr 6 0,.str t,.int .i64 (.ofNat 0)],hs)=>some (decide (0≤n)&&Nat.ble t.length 3000,.leaf (.exit 0) (sG n (brk (nG n) t) (nG n) hs))
 | _=>none
theorem LSG_ok:SOk X0 (loopAt 3 0) LSG:=by
 intro S c r h hc
 unfold LSG at h
 split at h
 ·rename_i n t hs hseen
  simp only [Option.some.injEq,Prod.mk.injEq] at h
  obtain ⟨rfl,rfl⟩:=h
  simp only [Bool.and_eq_true,decide_eq_true_eq,Nat.ble_eq] at hc
  refine Goes.pre (keepOf [1,4,5,6,7,8]) ?_
  rw [seenS_mask hseen]
  have h8:=nG_le n
  have hbig:big=140737488355328:=rfl
  refine loop_all (Sf:=fun i=>sG n (brk i t) i hs) (n:=nG n) (by simp) (fun i hi=>?_) ?_
  ·refine goes_of (tell0_ok _) (noTL_ok _ _) (noLoops idsG.2.2) ((bG n (brk i t) i hs).trans ?_)
   have hl:=brk_len t i
   rw [nG_eq hc.1,decide_eq_true (by omega:(i:Int) < ((nG n:Nat):Int)),cond_true,ck_t (by rw [ble_t (by omega)];rfl),ck_t (by
    rw [ble_t (by rw [List.length_append,List.length_singleton];omega)];rfl),wrap_nat (show i≤big by omega)]
   rfl
  ·refine goes_of (tell0_ok _) (noTL_ok _ _) (noLoops idsG.2.2) ((bG n (brk (nG n) t) (nG n) hs).trans ?_)
   rw [nG_eq hc.1,decide_eq_false (by omega)]
   rfl
 ·simp at h
noncomputable def pSm:List (D Pl)→Option (Bool×D Pl)
 | [d,e,.bool false]=>match asN d,asN e with
  | some a,some b=>some (goodB (noP a=noP b∧Bare a),.bool true)
  | _,_=>none
 | _=>none
theorem pSm_ok:∀ds b d,pSm ds=some (b,d)→b=true→Snd 6 ds d:=by
 intro ds b d hp hb
 unfold pSm at hp
 split at hp
 ·split at hp
  ·rename_i h1 h2
   simp only [Option.some.injEq,Prod.mk.injEq] at hp
   obtain ⟨rfl,rfl⟩:=hp
   obtain ⟨g1,g2⟩:=of_goodB hb
   exact (same_sound g1 g2).pre (.cons (asN_rdle h1) (.cons (asN_rdle h2) (.cons (RDle.refl _) .nil)))
  ·simp at hp
 ·simp at hp
def pAw:List (D Pl)→Option (Bool×D Pl)
 | []=>some (true,.bool true)
 | _=>none
theorem pAw_ok:∀ds b d,pAw ds=some (b,d)→b=true→Snd 4 ds d:=by
 intro ds b d h hb
 unfold pAw at h
 split at h
 ·simp only [Option.some.injEq,Prod.mk.injEq] at h;obtain ⟨_,rfl⟩:=h;exact awake_sound
 ·simp at h
theorem soundAt_of {P:Program} {C:Pay Pl} (hC:PayOk C) {glob:Nat→Option (List (D Pl))} {f:FuncId} {ds:List (D Pl)} {b:Bool} {H':Obs Pl} (h:SoundM P C glob f [] ds (.bool b) H'):SoundAt P C glob f ds (.bool b):=by
 intro w av vs hg hav hsz hrel
 have hav':(fun b=>av b∨False)=av:=funext fun b=>propext ⟨fun h=>h.elim id False.elim,Or.inl⟩
 have hS:Sim (ctx0 P C glob) ⟨w,av,fun _=>none,fun _=>False,fun _=>none⟩ [] [] act0 w:=by
  refine ⟨rfl,fun t=>?_,rfl,(fun o ob ho=>?_),(fun o o' ob ob' b ho=>?_),(fun o ob b ho=>?_),toL (BelowD.refl _ _),hav,(fun b hb=>hb.elim),(fun c b hc=>?_),fun i cs hgi=>?_⟩
  ·exact .bad _
  ·cases ho
  ·cases ho
  ·cases ho
  ·cases hc
  ·have:=hg i cs hgi
   show RD C (cx0 w fun b=>av b∨False) _ _∧_
   rw [hav']
   exact this
 have hc:=h ⟨w,av,fun _=>none,fun _=>False,fun _=>none⟩ vs (fun _=>rfl) hS hsz (fun i v c hv hc=>by
  have:=hrel i v c hv hc
  refine RD.grow hC (cx:=cx0 w av) (cx':=cxOf ⟨w,av,fun _=>none,fun _=>False,fun _=>none⟩ [] w) ⟨(fun b ob _ ho=>ho),(fun b ob ho hn hv=>?_),(fun _ _ _ h=>?_),(fun _ _ _ _ h=>?_),fun b cells T fz ho=>⟨cells,T,fz,ho,rfl⟩⟩ this
  ·rcases hv with hv | ⟨o,ob,h1,_⟩
   ·exact hn hv
   ·cases h1
  ·cases h
  ·cases h)
 have post:∀v w',(∃rho',Sim (ctx0 P C glob) { (⟨w,av,fun _=>none,fun _=>False,fun _=>none⟩:Gh) with rho:=rho' } [] H' act0 w'∧RD C (cxOf { (⟨w,av,fun _=>none,fun _=>False,fun _=>none⟩:Gh) with rho:=rho' } H' w') v (.bool b) ∧
   ∀c ob,Nat.blt c 100000=true→Eng.look ([]:Obs Pl) c=some ob→rho' c=none∧∃ob',Eng.look H' c=some ob'∧∀f p,ob'≠.arr f p)→RD C (cx0 w' av) v (.bool b)∧BelowD C.dr w.heap.size w w'∧OwnPost C w.heap.size av v w' (.bool b):=by
  intro v w' ⟨rho',h1,h2,_⟩
  refine ⟨?_,h1.below.none,trivial⟩
  cases h2
  exact .bool _
 rcases hc with ⟨h1,h2⟩ | ⟨v,w',h1,h2⟩
 ·exact .inl ⟨h1,h2.mono fun e w' ⟨v,he,hp⟩=>⟨v,he,post v w' hp⟩⟩
 ·exact .inr ⟨v,w',h1,post v w' h2⟩
noncomputable def lB:Code:=Mv.bodyOf 3
noncomputable def q0:Code:=Mv.seqL lB
noncomputable def q1:Code:=Mv.seqL (Mv.seqR lB)
noncomputable def q3:Code:=Mv.seqL (Mv.seqR (Mv.seqR lB))
noncomputable def q4:Code:=Mv.seqL (Mv.seqR (Mv.seqR (Mv.seqR lB)))
noncomputable def q5:Code:=Mv.seqL (Mv.seqR (Mv.seqR (Mv.seqR (Mv.seqR lB))))
noncomputable def q9:Code:=Mv.seqL (Mv.seqR (Mv.seqR (Mv.seqR (Mv.seqR (Mv.seqR lB)))))
noncomputable def q10:Code:=Mv.seqR (Mv.seqR (Mv.seqR (Mv.seqR (Mv.seqR (Mv.seqR lB)))))
theorem lB_eq:lB=.seq q0 (.seq q1 (.seq q3 (.seq q4 (.seq q5 (.seq q9 q10))))):=by kernel_rfl
noncomputable abbrev evQ (R:Eng.Told Pl) (code:Code) (keep:List Nat) (S:St Pl):Option (Ex×St Pl) :=
 exec X0 (callK X0 F0 R noTL 1) (atL 6 LSG noL) code S (fun e S=>some (e,maskS (keepOf keep) S))
theorem goes_ofQ {R:Eng.Told Pl} (hR:TOk R) {code:Code} (hL:∀b∈loopsOf code,LoopOk X0 (atL 6 LSG noL) b) {keep:List Nat} {S S':St Pl} {e:Ex} (h:evQ R code keep S=some (e,S')):Goes X0 code S e S':=by
 obtain ⟨e1,S1,h1,h2⟩:=body_goes xok fok hR (noTL_ok _ _) hL h
 simp only [Option.some.injEq,Prod.mk.injEq] at h1
 obtain ⟨rfl,rfl⟩:=h1
 exact h2.post _
def u0 (s:Str) (n:Int):St Pl:=⟨[.str s,.int .u8 n]++List.replicate 50 .bad,[]⟩
def u1 (s:Str) (n:Int):St Pl:=mkS 52 [(0,.str s),(1,.int .u8 n),(4,.bool false)] []
theorem hq0 (s:Str) (n:Int):evQ tell0 q0 [0,1,4] (u0 s n)=some (.normal,u1 s n):=by kernel_rfl
def tL0:Eng.Told Pl:=tell 4 pAw tell0
theorem hq1 (s:Str) (n:Int):evQ tL0 q1 [0,1,4] (u1 s n)=bif decide ((s.length:Int) > 3000) then some (.ret,mkS 52 [(0,.str s),(1,.int .u8 n),(4,.bool true)] []) else some (.normal,u1 s n):=by kernel_rfl
def ob3 (e:ExprR) (c:Int) (p:PosR):Obs Pl:=[(6,.box false (dgC c p)),(5,.box false (cExN e))]
def u3 (s:Str) (n:Int) (e:ExprR) (c:Int) (p:PosR):St Pl:=mkS 52 [(0,.str s),(1,.int .u8 n),(4,.bool false),(5,.ptr 5 0),(6,.ptr 6 0)] (ob3 e c p)
def tL1 (V:Whl):Eng.Told Pl:=tell 5 (pPa V) tell0
theorem hq3 (V:Whl) (s:Str) (n:Int):evQ (tL1 V) q3 [0,1,4,5,6] (u1 s n)=ck_ (okW (V s)) (some (.normal,u3 s n (gotW (V s)).1 (gotW (V s)).2.1 (gotW (V s)).2.2)):=by kernel_rfl
def u4 (s:Str) (n:Int) (t:Str) (e:ExprR) (c:Int) (p:PosR):St Pl:=mkS 52 [(1,.int .u8 n),(4,.bool false),(5,.ptr 5 0),(6,.ptr 6 0),(7,.str t)] (ob3 e c p)
theorem hq4 (s:Str) (n:Int) (e:ExprR) (c:Int) (p:PosR):evQ tell0 q4 [1,4,5,6,7] (u3 s n e c p)=some (.normal,u4 s n s e c p):=by kernel_rfl
theorem hq5 (s:Str) (n:Int) (e:ExprR) (c:Int) (p:PosR):evQ tell0 q5 [1,4,5,6,7] (u4 s n s e c p)=ck_ (decide (0≤n)&&Nat.ble s.length 3000) (some (.normal,u4 s n (brk (nG n) s) e c p)):=by kernel_rfl
def uG9 (e:ExprR) (c:Int) (p:PosR) (e':ExprR) (c':Int) (p':PosR):St Pl:=mkS 52 [(4,.bool false),(5,.ptr 5 0),(6,.ptr 6 0),(9,.ptr 9 0),(10,.ptr 10 0)] ([(10,.box false (dgC c' p')),(9,.box false (cExN e'))]++ob3 e c p)
theorem hq9 (V:Whl) (s:Str) (n:Int) (t:Str) (e:ExprR) (c:Int) (p:PosR):evQ (tL1 V) q9 [4,5,6,9,10] (u4 s n t e c p)=ck_ (okW (V t)) (some (.normal,uG9 e c p (gotW (V t)).1 (gotW (V t)).2.1 (gotW (V t)).2.2)):=by kernel_rfl
noncomputable def tL2:Eng.Told Pl:=tell 6 pSm (tell 4 pAw tell0)
def uT (e:ExprR) (c:Int) (p:PosR) (e':ExprR) (c':Int) (p':PosR):St Pl:=mkS 52 [(4,.bool true)] ([(10,.box false (dgC c' p')),(9,.box false (cExN e'))]++ob3 e c p)
theorem hq10 (e:ExprR) (p:PosR) (e':ExprR) (p':PosR):evQ tL2 q10 [4] (uG9 e 0 p e' 0 p')=ck_ (goodB (noP (nP e)=noP (nP e')∧Bare (nP e))) (some (.ret,uT e 0 p e' 0 p')):=by kernel_rfl
theorem hqa (e:ExprR) (p:PosR) (e':ExprR) (p':PosR) (m k:Nat):evQ tL2 q10 [4] (uG9 e (.ofNat (m+1)) p e' 0 p')=some (.ret,uT e (.ofNat (m+1)) p e' 0 p')∧evQ tL2 q10 [4] (uG9 e (.ofNat (m+1)) p e' (.ofNat (k+1)) p')=some (.ret,uT e (.ofNat (m+1)) p e' (.ofNat (k+1)) p') ∧
  evQ tL2 q10 [4] (uG9 e (.ofNat (m+1)) p e' (.negSucc k) p')=some (.ret,uT e (.ofNat (m+1)) p e' (.negSucc k) p'):=⟨by kernel_rfl,by kernel_rfl,by kernel_rfl⟩
theorem hqb (e:ExprR) (p:PosR) (e':ExprR) (p':PosR) (m k:Nat):evQ tL2 q10 [4] (uG9 e (.negSucc m) p e' 0 p')=some (.ret,uT e (.negSucc m) p e' 0 p')∧evQ tL2 q10 [4] (uG9 e (.negSucc m) p e' (.ofNat (k+1)) p')=some (.ret,uT e (.negSucc m) p e' (.ofNat (k+1)) p') ∧
  evQ tL2 q10 [4] (uG9 e (.negSucc m) p e' (.negSucc k) p')=some (.ret,uT e (.negSucc m) p e' (.negSucc k) p'):=⟨by kernel_rfl,by kernel_rfl,by kernel_rfl⟩
theorem hfin (e:ExprR) (c:Int) (p:PosR) (e':ExprR) (c':Int) (p':PosR):finM X0 Tryz.f3 [] (uT e c p e' c' p')=some (.env [] (.bool true)):=by kernel_rfl
theorem hfin2 (s:Str) (n:Int):finM X0 Tryz.f3 [] (mkS 52 [(0,.str s),(1,.int .u8 n),(4,.bool true)] [])=some (.env [] (.bool true)):=by kernel_rfl
theorem tL0_ok:TOk tL0:=tell_ok pAw_ok (tell0_ok _)
theorem tL1_ok {V:Whl} (hV:SndPa V):TOk (tL1 V):=tell_ok (pPa_ok hV) (tell0_ok _)
theorem tL2_ok:TOk tL2:=tell_ok pSm_ok (tell_ok pAw_ok (tell0_ok _))
theorem lq:loopsOf q0=[]∧loopsOf q1=[]∧loopsOf q3=[]∧loopsOf q4=[]∧loopsOf q5=[loopAt 3 0]∧loopsOf q9=[]∧loopsOf q10=[]:=⟨by kernel_rfl,by kernel_rfl,by kernel_rfl,by kernel_rfl,by kernel_rfl,by kernel_rfl,by kernel_rfl⟩
theorem q10_any (e:ExprR) (c:Int) (p:PosR) (e':ExprR) (c':Int) (p':PosR) (h:c=0→c'=0∧noP e=noP e'∧Bare e):GoesX q10 (uG9 e c p e' c' p') .ret (uT e c p e' c' p'):=by
 have go:∀{S S':St Pl} {x:Ex},evQ tL2 q10 [4] S=some (x,S')→GoesX q10 S x S':=fun h=>goes_ofQ tL2_ok (noLoops lq.2.2.2.2.2.2) h
 match c,c' with
 | .ofNat 0,c' =>
  obtain ⟨rfl,h1,h2⟩:=h rfl
  exact go ((hq10 e p e' p').trans (ck_t (goodB_t ⟨by rw [Eqv.noP_nP,Eqv.noP_nP,h1],bare_nP' h2⟩) _))
 | .ofNat (m+1),.ofNat 0=>exact go (hqa e p e' p' m 0).1
 | .ofNat (m+1),.ofNat (k+1)=>exact go (hqa e p e' p' m k).2.1
 | .ofNat (m+1),.negSucc k=>exact go (hqa e p e' p' m k).2.2
 | .negSucc m,.ofNat 0=>exact go (hqb e p e' p' m 0).1
 | .negSucc m,.ofNat (k+1)=>exact go (hqb e p e' p' m k).2.1
 | .negSucc m,.negSucc k=>exact go (hqb e p e' p' m k).2.2
theorem lB_goes {s:Str} {n:Int} (hn:0≤n):∃S',GoesX lB (u0 s n) .ret S'∧finM X0 Tryz.f3 [] S'=some (.env [] (.bool true)):=by
 rw [lB_eq]
 have h0:GoesX q0 (u0 s n) .normal (u1 s n):=goes_ofQ (tell0_ok _) (noLoops lq.1) (hq0 s n)
 by_cases hs:s.length≤3000
 ·have h1:GoesX q1 (u1 s n) .normal (u1 s n):=goes_ofQ tL0_ok (noLoops lq.2.1) ((hq1 s n).trans (by rw [decide_eq_false (by omega)];rfl))
  have hS:=PP_tot s
  have hT:=PP_tot (brk (nG n) s)
  have h3:=goes_ofQ (tL1_ok PP_snd) (noLoops lq.2.2.1) ((hq3 PP s n).trans (ck_t hS _))
  have h4:=goes_ofQ (tell0_ok _) (noLoops lq.2.2.2.1) (hq4 s n (gotW (PP s)).1 (gotW (PP s)).2.1 (gotW (PP s)).2.2)
  have hL5:∀b∈loopsOf q5,LoopOk X0 (atL 6 LSG noL) b:=by
   rw [lq.2.2.2.2.1]
   intro b hb
   rw [List.mem_singleton] at hb
   subst hb
   exact atL_ok (fun _=>LSG_ok) fun h=>absurd idsG.2.1 h
  have h5:=goes_ofQ (tell0_ok _) hL5 ((hq5 s n (gotW (PP s)).1 (gotW (PP s)).2.1 (gotW (PP s)).2.2).trans (ck_t (by rw [decide_eq_true hn,ble_t hs];rfl) _))
  have h9:=goes_ofQ (tL1_ok PP_snd) (noLoops lq.2.2.2.2.2.1) ((hq9 PP s n (brk (nG n) s) (gotW (PP s)).1 (gotW (PP s)).2.1 (gotW (PP s)).2.2).trans (ck_t hT _))
  have h10:=q10_any (gotW (PP s)).1 (gotW (PP s)).2.1 (gotW (PP s)).2.2 (gotW (PP (brk (nG n) s))).1 (gotW (PP (brk (nG n) s))).2.1 (gotW (PP (brk (nG n) s))).2.2 fun hc=>by
   have h:=okW_some hS
   rw [hc] at h
   obtain ⟨e',p',q1,q2,q3⟩:=brk_PP hs h (nG n) (nG_le n)
   rw [q1]
   exact ⟨rfl,q2,q3⟩
  exact ⟨_,goes_seq h0 (goes_seq h1 (goes_seq h3 (goes_seq h4 (goes_seq h5 (goes_seq h9 h10))))),hfin _ _ _ _ _ _⟩
 ·have h1:=goes_ofQ tL0_ok (noLoops lq.2.1) ((hq1 s n).trans (by rw [decide_eq_true (by omega:(s.length:Int) > 3000)];rfl))
  exact ⟨_,goes_seq h0 (goes_seqX h1 (by simp)),hfin2 s n⟩
theorem exprGroups_sound (s:Str) (n:Int):Snd 3 [.str s,.int .u8 n] (.bool true):=by
 intro w av vs hg hav hsz hrel
 have hsz':vs.size=2:=hsz
 have hn:0≤n:=by
  have hr:=hrel 1 vs[1] (.int .u8 n) (by simp [hsz']) rfl
  generalize vs[1]=v at hr
  cases hr with
  | int _ _ h =>
   have h1:lo .u8≤n:=(inR_of h).1
   exact h1
 obtain ⟨S',hgo,hfd⟩:=lB_goes (s:=s) hn
 have hfn:=fok _ _ (show F0 3=some Tryz.f3 by kernel_rfl)
 obtain ⟨os',d',he,hM⟩:=fnM_goes xok hfn.1 hfn.2 (show Tryz.f3.body=some lB by kernel_rfl) (H:=[]) (ds:=[.str s,.int .u8 n]) (S':=S') (e:=.ret) hgo (by simp) hfd
 simp only [D.env.injEq] at he
 obtain ⟨rfl,rfl⟩:=he
 exact soundAt_of xok.pay hM w av vs hg hav hsz hrel
end Go.Proofs.YtcgbgcconigdbaaGreatDoor.Rd
