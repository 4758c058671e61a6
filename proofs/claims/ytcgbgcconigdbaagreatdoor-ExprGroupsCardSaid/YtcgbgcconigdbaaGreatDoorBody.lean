/-
 WHAT A STRING HAS: the loop's rounds.
-/
import Derived.Test.YtcgbgcconigdbaaGreatDoorModel
import Derived.Test.YtcgbgcconigdbaaGreatDoorSign
import Derived.Test.YtcgbgcconigdbaaGreatDoorEngTb
namespace Go.Proofs.YtcgbgcconigdbaaGreatDoor
open Go.Eng
set_option maxRecDepth 100000
def pAnyQ:List (D Pl)→Option (Bool×D Pl)
 | [.str s,.str c]=>some (Nat.ble s.length 100000&&c==qs,dI (Lib.indexAny s qs))
 | _=>none
theorem pAnyQ_ok:∀ds b d,pAnyQ ds=some (b,d)→b=true→Snd 50 ds d:=by
 intro ds b d h hb
 unfold pAnyQ at h
 split at h
 ·simp only [Option.some.injEq,Prod.mk.injEq] at h
  obtain ⟨rfl,rfl⟩:=h
  rw [Bool.and_eq_true,beq_iff_eq] at hb
  obtain ⟨h1,rfl⟩:=hb
  exact anyQ_sound _ (Nat.le_of_ble_eq_true h1)
 ·simp at h
noncomputable def tPc:Eng.Told Pl:=tell 50 pAnyQ (tellM 22 (pM pStep) tell0)
theorem tPc_ok:TOk tPc:=tell_ok pAnyQ_ok (tellM_ok (pM_ok pStep_ok) (tell0_ok _))
def posW (z:Scn):PosR:=⟨(z.p:Int),ln z.s z.p,w64 (w64 ((z.p:Int) - sn z.s z.p)+1)⟩
def pcB (z:Scn) (n:Int):Option (D Pl) :=
 ck_ ((decide (0≤w64 ((z.p:Int)+n))&&decide (w64 ((z.p:Int)+n) < (z.s.length:Int)))||!(decide (n < 0)==false))
  (bif (bif decide (n < 0) then true else bytI z.s (w64 ((z.p:Int)+n)) != 125) then some (.env (encS z) (.tup [.agg (cPart ⟨true,[],posW z⟩),.bool false]))
   else ck_ (slO z.p (w64 ((z.p:Int)+n)) z.s.length) (ck_ (okS z.s z.p&&stepOk z (w64 (n+1))) (some (.env (encS (z.go (z.p+(w64 (n+1)).toNat))) (.tup [.agg (cPart ⟨true,slS z.s z.p (w64 ((z.p:Int)+n)),posW z⟩),.bool true])))))
def pcA (z:Scn):Option (D Pl):=ck_ (slO z.p (z.s.length:Int) z.s.length) (ck_ (Nat.ble (slS z.s z.p (z.s.length:Int)).length 100000&&qs==qs) (pcB z (Lib.indexAny (slS z.s z.p (z.s.length:Int)) qs)))
theorem e38n (s:Str) (p:Nat) (bad:Int) (bp:PosR):evM tPc noTL noL 3 Tryz.f45 (decH (encS ⟨s,p,[],bad,bp⟩)) [.ptr 50000 0]=ck_ (okS s p&&stepOk ⟨s,p,[],bad,bp⟩ 2) (pcA (Scn.go ⟨s,p,[],bad,bp⟩ (p+Int.toNat 2))):=by kernel_rfl
theorem e38c (s:Str) (p:Nat) (x:TokR) (l:List TokR) (bad:Int) (bp:PosR):evM tPc noTL noL 3 Tryz.f45 (decH (encS ⟨s,p,x::l,bad,bp⟩)) [.ptr 50000 0]=ck_ (okS s p&&stepOk ⟨s,p,x::l,bad,bp⟩ 2) (pcA (Scn.go ⟨s,p,x::l,bad,bp⟩ (p+Int.toNat 2))):=by kernel_rfl
theorem ids38:(loopsAt 45).length=0:=by kernel_rfl
def pcP (s:Str) (p:Nat):PartR:=⟨true,bif pcOk s p then sl s p (pcn s p) else [],posR s p⟩
def pcQ (s:Str) (p:Nat):Nat:=bif pcOk s p then p+pcn s p+1 else p
theorem posW_eq {z:Scn} (hp:z.p≤z.s.length) (hl:z.s.length≤big):posW z=posR z.s z.p:=by
 have hbig:big=140737488355328:=rfl
 have h:=sn_in z.s z.p
 unfold posW posR
 rw [show w64 ((z.p:Int) - sn z.s z.p)=(z.p:Int) - sn z.s z.p from wrap_in _ (by omega),show w64 ((z.p:Int) - sn z.s z.p+1)=(z.p:Int) - sn z.s z.p+1 from wrap_in _ (by omega)]
theorem pcA_eq {z:Scn} (hp:z.p≤z.s.length) (hl:z.s.length≤100000):pcA z=some (.env (encS (z.go (pcQ z.s z.p))) (.tup [.agg (cPart (pcP z.s z.p)),.bool (pcOk z.s z.p)])):=by
 have hbig:big=140737488355328:=rfl
 have hlb:z.s.length≤big:=by omega
 unfold pcA
 have e:slS z.s z.p (z.s.length:Int)=z.s.drop z.p:=by
  unfold slS
  rw [show ((z.s.length:Int)).toNat=z.s.length from rfl,show (z.p:Int).toNat=z.p from rfl]
  exact List.take_of_length_le (by simp)
 rw [ck_t (by unfold slO;rw [decide_eq_true (show (0:Int)≤(z.p:Int) by omega),decide_eq_true (show (z.p:Int)≤(z.s.length:Int) by omega),decide_eq_true (show (z.s.length:Int)≤(z.s.length:Int) by omega)];rfl),e,
  ck_t (by rw [ble_t (show (z.s.drop z.p).length≤100000 by rw [List.length_drop];omega)];rfl)]
 have hix:Lib.indexAny (z.s.drop z.p) qs=bif Nat.blt (pcn z.s z.p) (z.s.drop z.p).length then ((pcn z.s z.p:Nat):Int) else -1:=indexAny_ff (z.s.drop z.p)
 have hle:=pcn_le z.s z.p
 have hpw:=posW_eq hp hlb
 cases hb:Nat.blt (pcn z.s z.p) (z.s.drop z.p).length with
 | false =>
  have hno:pcOk z.s z.p=false:=by unfold pcOk;rw [hb];rfl
  rw [show Lib.indexAny (z.s.drop z.p) qs=-1 by rw [hix,hb];rfl]
  unfold pcB pcP pcQ
  rw [decide_eq_true (show (-1:Int) < 0 by decide)]
  rw [ck_t (by simp),hno,hpw]
  rfl
 | true =>
  have hlt:z.p+pcn z.s z.p < z.s.length:=by
   rw [Nat.blt_eq,List.length_drop] at hb;omega
  have hw:w64 ((z.p:Int)+((pcn z.s z.p:Nat):Int))=((z.p+pcn z.s z.p:Nat):Int):=by
   rw [show (z.p:Int)+((pcn z.s z.p:Nat):Int)=((z.p+pcn z.s z.p:Nat):Int) by omega]
   exact wrap_in _ (by omega)
  have hw2:w64 (((pcn z.s z.p:Nat):Int)+1)=((pcn z.s z.p+1:Nat):Int):=wrap_nat (by omega)
  obtain ⟨q1,q2⟩:=slS_eq (s:=z.s) (p:=z.p) (n:=pcn z.s z.p) (by omega) hlb
  have hby:bytI z.s ((z.p+pcn z.s z.p:Nat):Int)=byt z.s (z.p+pcn z.s z.p):=rfl
  rw [show Lib.indexAny (z.s.drop z.p) qs=((pcn z.s z.p:Nat):Int) by rw [hix,hb];rfl]
  unfold pcB pcP pcQ
  rw [decide_eq_false (show ¬ ((pcn z.s z.p:Nat):Int) < 0 by omega),q1,q2,hw,hw2,hby,cond_false,decide_eq_true (show (0:Int)≤((z.p+pcn z.s z.p:Nat):Int) by omega),decide_eq_true (show ((z.p+pcn z.s z.p:Nat):Int) < (z.s.length:Int) by omega),ck_t (by rfl)]
  have hok:pcOk z.s z.p=(byt z.s (z.p+pcn z.s z.p)==125):=by unfold pcOk;rw [hb];rfl
  rw [hok,bne]
  cases byt z.s (z.p+pcn z.s z.p)==125 with
  | false=>simp only [Bool.not_false,cond_true,cond_false];rw [hpw];rfl
  | true =>
   simp only [Bool.not_true,cond_true,cond_false]
   rw [ck_t rfl,ck_t (by
    rw [okS_t,Bool.true_and]
    unfold stepOk
    rw [decide_eq_true (by omega),ble_t (show z.p+((pcn z.s z.p+1:Nat):Int).toNat≤z.s.length by omega),ble_t hlb];rfl),hpw]
   rfl
theorem pieces (z:Scn) (hp:z.p+2≤z.s.length) (hl:z.s.length≤100000) :
  SndS 45 z [] (.tup [.agg (cPart (pcP z.s (z.p+2))),.bool (pcOk z.s (z.p+2))]) (z.go (pcQ z.s (z.p+2))):=by
 have hbig:big=140737488355328:=rfl
 have hL:=loops_of (f:=45) (fn:=Tryz.f45) (by kernel_rfl) (loops_0 ids38 (L:=noL))
 have key:ck_ (okS z.s z.p&&stepOk z 2) (pcA (z.go (z.p+Int.toNat 2)))=some (.env (encS (z.go (pcQ z.s (z.p+2)))) (.tup [.agg (cPart (pcP z.s (z.p+2))),.bool (pcOk z.s (z.p+2))])):=by
  rw [ck_t (by
   rw [okS_t,Bool.true_and]
   unfold stepOk
   rw [decide_eq_true (by omega),ble_t (show z.p+(2:Int).toNat≤z.s.length by show z.p+2≤_;exact hp),ble_t (by omega)];rfl)]
  exact pcA_eq (z:=z.go (z.p+2)) hp hl
 obtain ⟨s,p,toks,bad,bp⟩:=z
 cases toks with
 | nil=>exact snd_m (n:=3) tPc_ok (noTL_ok _ _) (fn:=Tryz.f45) (by kernel_rfl) hL ((e38n s p bad bp).trans key)
 | cons x l=>exact snd_m (n:=3) tPc_ok (noTL_ok _ _) (fn:=Tryz.f45) (by kernel_rfl) hL ((e38c s p x l bad bp).trans key)
def pPiece (z:Scn):List (D Pl)→Option (Bool×D Pl×Scn)
 | []=>some (Nat.ble (z.p+2) z.s.length&&Nat.ble z.s.length 100000,.tup [.agg (cPart (pcP z.s (z.p+2))),.bool (pcOk z.s (z.p+2))],z.go (pcQ z.s (z.p+2)))
 | _=>none
theorem pPiece_ok:∀z args c d z',pPiece z args=some (c,d,z')→c=true→SndS 45 z args d z':=by
 intro z args c d z' h hc
 unfold pPiece at h
 split at h
 ·simp only [Option.some.injEq,Prod.mk.injEq] at h
  obtain ⟨rfl,rfl,rfl⟩:=h
  simp only [Bool.and_eq_true,Nat.ble_eq] at hc
  exact pieces z hc.1 hc.2
 ·simp at h
end Go.Proofs.YtcgbgcconigdbaaGreatDoor
namespace Go.Proofs.YtcgbgcconigdbaaGreatDoor
open Go.Eng
set_option maxRecDepth 100000
def flE (b:Str) (out:List PartR):List (D Pl):=match b,out with
 | [],[]=>[.obB 50000 [.nilS],.obB 50001 [.nilS]]
 | x::b,[]=>[.obB 50000 [.arr 100000],.obB 50001 [.nilS],.obA 100000 ⟨.bytes,x::b⟩]
 | [],y::l=>[.obB 50000 [.nilS],.obB 50001 [.arr 101000],.obA 101000 ⟨.parts,y::l⟩]
 | x::b,y::l=>[.obB 50000 [.arr 100000],.obB 50001 [.arr 101000],.obA 100000 ⟨.bytes,x::b⟩,.obA 101000 ⟨.parts,y::l⟩]
def flD:List (D Pl)→Option (Str×List PartR)
 | [.obB 50000 [.nilS],.obB 50001 [.nilS]]=>some ([],[])
 | [.obB 50000 [.arr 100000],.obB 50001 [.nilS],.obA 100000 ⟨.bytes,x::b⟩]=>some (x::b,[])
 | [.obB 50000 [.nilS],.obB 50001 [.arr 101000],.obA 101000 ⟨.parts,y::l⟩]=>some ([],y::l)
 | [.obB 50000 [.arr 100000],.obB 50001 [.arr 101000],.obA 100000 ⟨.bytes,x::b⟩,.obA 101000 ⟨.parts,y::l⟩]=>some (x::b,y::l)
 | _=>none
theorem flD_eq {os:List (D Pl)} {b:Str} {out:List PartR} (h:flD os=some (b,out)):os=flE b out:=by
 unfold flD at h
 split at h<;>simp only [Option.some.injEq,Prod.mk.injEq,reduceCtorEq] at h
 all_goals
  obtain ⟨rfl,rfl⟩:=h
  rfl
def flR (b:Str) (out:List PartR):Option (D Pl):=bif decide (((b.length:Nat):Int) > 0) then some (.env (flE [] (fl out b)) (.tup [])) else some (.env (flE b out) (.tup []))
theorem f0:evM tell0 noTL noL 3 Tryz.f43 (decH (flE [] [])) [.ptr 50000 0,.ptr 50001 0]=some (.env (flE [] []) (.tup [])):=by kernel_rfl
theorem f1 (x:UInt8) (b:Str):evM tell0 noTL noL 3 Tryz.f43 (decH (flE (x::b) [])) [.ptr 50000 0,.ptr 50001 0]=flR (x::b) []:=by kernel_rfl
theorem f2 (y:PartR) (l:List PartR):evM tell0 noTL noL 3 Tryz.f43 (decH (flE [] (y::l))) [.ptr 50000 0,.ptr 50001 0]=some (.env (flE [] (y::l)) (.tup [])):=by kernel_rfl
theorem f3 (x:UInt8) (b:Str) (y:PartR) (l:List PartR):evM tell0 noTL noL 3 Tryz.f43 (decH (flE (x::b) (y::l))) [.ptr 50000 0,.ptr 50001 0] =
  bif decide ((((x::b).length:Nat):Int) > 0) then ck_ (Nat.ble (((y::l).length+1) * 48) big) (some (.env (flE [] (y::(l++[⟨false,x::b,⟨0,0,0⟩⟩]))) (.tup []))) else some (.env (flE (x::b) (y::l)) (.tup [])):=by kernel_rfl
theorem ids36:(loopsAt 43).length=0:=by kernel_rfl
theorem flush (b:Str) (out:List PartR) (h:(out.length+1) * 48≤big):SndM 43 (decH (flE b out)) [.ptr 50000 0,.ptr 50001 0] (.tup []) (decH (flE [] (fl out b))):=by
 have hL:=loops_of (f:=43) (fn:=Tryz.f43) (by kernel_rfl) (loops_0 ids36 (L:=noL))
 have hpos:∀(x:UInt8) (b:Str),decide ((((x::b).length:Nat):Int) > 0)=true:=fun x b=>decide_eq_true (by simp only [List.length_cons];omega)
 cases b with
 | nil =>
  cases out with
  | nil=>exact snd_m (n:=3) (tell0_ok _) (noTL_ok _ _) (fn:=Tryz.f43) (by kernel_rfl) hL f0
  | cons y l=>exact snd_m (n:=3) (tell0_ok _) (noTL_ok _ _) (fn:=Tryz.f43) (by kernel_rfl) hL (f2 y l)
 | cons x b =>
  cases out with
  | nil=>exact snd_m (n:=3) (tell0_ok _) (noTL_ok _ _) (fn:=Tryz.f43) (by kernel_rfl) hL ((f1 x b).trans (by unfold flR;rw [hpos];rfl))
  | cons y l =>
   refine snd_m (n:=3) (tell0_ok _) (noTL_ok _ _) (fn:=Tryz.f43) (by kernel_rfl) hL ((f3 x b y l).trans ?_)
   rw [hpos,cond_true,ck_t (ble_t h)]
   rfl
def pFlush (os ds:List (D Pl)):Option (Bool×D Pl×List (D Pl)):=match flD os,ds with
 | some (b,out),[.ptr 50000 0,.ptr 50001 0]=>some (Nat.ble ((out.length+1) * 48) big,.tup [],flE [] (fl out b))
 | _,_=>none
theorem pFlush_ok:∀os ds b d os',pFlush os ds=some (b,d,os')→b=true→SndM 43 (decH os) ds d (decH os'):=by
 intro os ds c d os' h hc
 unfold pFlush at h
 split at h
 ·rename_i b out hd
  simp only [Option.some.injEq,Prod.mk.injEq] at h
  obtain ⟨rfl,rfl,rfl⟩:=h
  rw [flD_eq hd]
  exact flush b out (Nat.le_of_ble_eq_true hc)
 ·simp at h
noncomputable def tBd:Eng.Told Pl:=tellM 43 pFlush (tellM 45 (pM pPiece) (tellM 22 (pM pStep) (tPre (tell 44 (pU8 fun c=>.tup [.int .u8 (escV c),.bool (escB c)]) tell0))))
theorem tBd_ok:TOk tBd:=tellM_ok pFlush_ok (tellM_ok (pM_ok pPiece_ok) (tellM_ok (pM_ok pStep_ok) (tPre_ok (tell_ok (pU8_ok esc_sound) (tell0_ok _)))))
end Go.Proofs.YtcgbgcconigdbaaGreatDoor
namespace Go.Proofs.YtcgbgcconigdbaaGreatDoor
open Go.Eng
set_option maxRecDepth 100000
def hsBd (out:List PartR) (b:Str) (H:Obs Pl):Obs Pl:=(match b with
 | []=>[(5,Ob.box false [D.nilS])]
 | x::b=>[(5,.box false [.arr 36]),(36,.arr false ⟨.bytes,x::b⟩)])++((match out with
 | []=>[(4,Ob.box false [D.nilS])]
 | y::l=>[(4,.box false [.arr 88]),(88,.arr false ⟨.parts,y::l⟩)])++H)
def sBd (z:Scn) (out:List PartR) (b:Str):St Pl:=mkS 89 [(0,.ptr 50000 0),(2,.nilS),(3,.bool false),(4,.ptr 4 0),(5,.ptr 5 0),(6,.fn 43 [.ptr 5 0,.ptr 4 0])] (hsBd out b (decH (encS z)))
def sBr (z:Scn) (out:List PartR):St Pl:=mkS 89 [(0,.ptr 50000 0),(2,match out with
 | []=>D.nilS
 | _::_=>D.arr 88),(3,.bool true),(4,.ptr 4 0),(5,.ptr 5 0),(6,.fn 43 [.ptr 5 0,.ptr 4 0])] (hsBd out [] (decH (encS z)))
noncomputable abbrev evX (R:Eng.Told Pl) (TL:LoopsT Pl) (L:LK Pl) (n:Nat) (code:Code) (keep lose:List Nat) (l:List (Nat×Nat×Nat)) (ks:List Nat) (S:St Pl):Option (Ex×St Pl) :=
 exec X0 (callK X0 F0 R TL n) L code S (fun e S=>some (e,finS (keepOf keep) (keepOf lose) l ks S))
theorem goes_ofX {R:Eng.Told Pl} (hR:TOk R) {TL:LoopsT Pl} (hTL:LOk TL) {L:LK Pl} {n:Nat} {code:Code} {keep lose:List Nat} {l:List (Nat×Nat×Nat)} {ks:List Nat} {S S':St Pl} {e:Ex} (hL:∀b∈loopsOf code,LoopOk X0 L b)
  (h:evX R TL L n code keep lose l ks S=some (e,S')):GoesTo code S e S':=by
 obtain ⟨e1,S1,h1,h2⟩:=body_goes xok fok hR hTL hL h
 simp only [Option.some.injEq,Prod.mk.injEq] at h1
 obtain ⟨rfl,rfl⟩:=h1
 exact h2.fin xok _ _ _ _
section
variable {β:Type}
def apB (b:Str) (k:Option β):Option β:=match b with
 | []=>k
 | x::b=>ck_ (Nat.ble (((x::b).length+1) * 1) big) k
def apP (out:List PartR) (k:Option β):Option β:=match out with
 | []=>k
 | y::l=>ck_ (Nat.ble (((y::l).length+1) * 48) big) k
def ix0 (r:Str) (k:Option β):Option β:=ck_ ((true&&decide ((0:Int) < (r.length:Int)))||false) k
theorem apB_t {b:Str} (h:(b.length+1) * 1≤big) (k:Option β):apB b k=k:=by
 cases b with
 | nil=>rfl
 | cons x b=>exact ck_t (ble_t h) k
theorem apP_t {out:List PartR} (h:(out.length+1) * 48≤big) (k:Option β):apP out k=k:=by
 cases out with
 | nil=>rfl
 | cons x b=>exact ck_t (ble_t h) k
theorem ix0_t {r:Str} (h:0 < r.length) (k:Option β):ix0 r k=k:=ck_t (by rw [decide_eq_true (show (0:Int) < (r.length:Int) by omega)];rfl) k
end
def bdPc (z:Scn) (out:List PartR) (b:Str):Option (Ex×St Pl) :=
 ck_ (Nat.ble ((out.length+1) * 48) big) (ck_ (okS z.s z.p&&(Nat.ble (z.p+2) z.s.length&&Nat.ble z.s.length 100000))
  (bif !(pcOk z.s (z.p+2)) then some (.ret,sBd (z.go (pcQ z.s (z.p+2))) (fl out b) [])
   else apP (fl out b) (some (.normal,sBd (z.go (pcQ z.s (z.p+2))) (fl out b++[pcP z.s (z.p+2)]) []))))
def bdEs (z:Scn) (out:List PartR) (b r:Str):Option (Ex×St Pl) :=
 bif decide ((r.length:Int) < 2) then some (.ret,sBd z out b) else ck_ ((true&&decide ((1:Int) < (r.length:Int)))||false)
  (bif !(escB (byt r 1)) then some (.ret,sBd z out b) else apB b (ck_ (okS z.s z.p&&stepOk z 2) (some (.normal,sBd (z.go (z.p+Int.toNat 2)) out (b++[UInt8.ofNat (escV (byt r 1)).toNat])))))
def bdDf (z:Scn) (out:List PartR) (b r:Str):Option (Ex×St Pl) :=
 ix0 r (apB b (ck_ (okS z.s z.p&&stepOk z 1) (some (.normal,sBd (z.go (z.p+Int.toNat 1)) out (b++[UInt8.ofNat (byt r 0).toNat])))))
def bdR (z:Scn) (out:List PartR) (b r:Str):Option (Ex×St Pl) :=
 ix0 r (bif byt r 0==34 then ck_ (okS z.s z.p&&stepOk z 1) (ck_ (Nat.ble ((out.length+1) * 48) big) (some (.ret,sBr (z.go (z.p+Int.toNat 1)) (fl out b))))
  else ix0 r (bif byt r 0==10 then some (.ret,sBd z out b)
  else ix0 r (bif byt r 0==92 then bdEs z out b r
  else bif preB r [36,123] then bdPc z out b else bdDf z out b r)))
def bdB (z:Scn) (out:List PartR) (b:Str):Option (Ex×St Pl) :=
 lt_ z.p z.s.length (ck_ (slO z.p (z.s.length:Int) z.s.length) (bdR z out b (slS z.s z.p (z.s.length:Int)))) (some (.exit 0,sBd z out b))
noncomputable abbrev evB (S:St Pl):=evX tBd noTL noL 4 (loopAt 36 0) [0,2,3,4,5,6] [10] [(5,0,36),(4,0,88),(50000,10,100010)] [5,36,4,88,50000,100010] S
theorem b30nnn (s:Str) (p:Nat) (bad:Int) (bp:PosR):evB (sBd ⟨s,p,[],bad,bp⟩ [] [])=bdB ⟨s,p,[],bad,bp⟩ [] []:=by kernel_rfl
theorem b30nnc (s:Str) (p:Nat) (bad:Int) (bp:PosR) (x:UInt8) (b:Str):evB (sBd ⟨s,p,[],bad,bp⟩ [] (x::b))=bdB ⟨s,p,[],bad,bp⟩ [] (x::b):=by kernel_rfl
theorem b30ncn (s:Str) (p:Nat) (bad:Int) (bp:PosR) (y:PartR) (l:List PartR):evB (sBd ⟨s,p,[],bad,bp⟩ (y::l) [])=bdB ⟨s,p,[],bad,bp⟩ (y::l) []:=by kernel_rfl
theorem b30ncc (s:Str) (p:Nat) (bad:Int) (bp:PosR) (y:PartR) (l:List PartR) (x:UInt8) (b:Str):evB (sBd ⟨s,p,[],bad,bp⟩ (y::l) (x::b))=bdB ⟨s,p,[],bad,bp⟩ (y::l) (x::b):=by kernel_rfl
theorem b30cnn (s:Str) (p:Nat) (k:TokR) (ks:List TokR) (bad:Int) (bp:PosR):evB (sBd ⟨s,p,k::ks,bad,bp⟩ [] [])=bdB ⟨s,p,k::ks,bad,bp⟩ [] []:=by kernel_rfl
theorem b30cnc (s:Str) (p:Nat) (k:TokR) (ks:List TokR) (bad:Int) (bp:PosR) (x:UInt8) (b:Str):evB (sBd ⟨s,p,k::ks,bad,bp⟩ [] (x::b))=bdB ⟨s,p,k::ks,bad,bp⟩ [] (x::b):=by kernel_rfl
theorem b30ccn (s:Str) (p:Nat) (k:TokR) (ks:List TokR) (bad:Int) (bp:PosR) (y:PartR) (l:List PartR):evB (sBd ⟨s,p,k::ks,bad,bp⟩ (y::l) [])=bdB ⟨s,p,k::ks,bad,bp⟩ (y::l) []:=by kernel_rfl
theorem b30ccc (s:Str) (p:Nat) (k:TokR) (ks:List TokR) (bad:Int) (bp:PosR) (y:PartR) (l:List PartR) (x:UInt8) (b:Str):evB (sBd ⟨s,p,k::ks,bad,bp⟩ (y::l) (x::b))=bdB ⟨s,p,k::ks,bad,bp⟩ (y::l) (x::b):=by kernel_rfl
theorem ids30:(loopsAt 36).length=1∧firstId (loopAt 36 0)=4∧loopsOf (loopAt 36 0)=[]:=⟨by kernel_rfl,by kernel_rfl,by kernel_rfl⟩
theorem goBd (z:Scn) (out:List PartR) (b:Str) {e:Ex} {S:St Pl} (h:bdB z out b=some (e,S)):Goes X0 (loopAt 36 0) (sBd z out b) e S:=by
 obtain ⟨s,p,toks,bad,bp⟩:=z
 have key:evB (sBd ⟨s,p,toks,bad,bp⟩ out b)=bdB ⟨s,p,toks,bad,bp⟩ out b:=by
  cases toks<;>cases out<;>cases b
  ·exact b30nnn s p bad bp
  ·exact b30nnc s p bad bp _ _
  ·exact b30ncn s p bad bp _ _
  ·exact b30ncc s p bad bp _ _ _ _
  ·exact b30cnn s p _ _ bad bp
  ·exact b30cnc s p _ _ bad bp _ _
  ·exact b30ccn s p _ _ bad bp _ _
  ·exact b30ccc s p _ _ bad bp _ _ _ _
 exact goes_ofX tBd_ok (noTL_ok _ _) (noLoops ids30.2.2) (key.trans h)
theorem pcQ_ok {s:Str} {p:Nat} (h:pcOk s p=true):pcQ s p=p+pcn s p+1∧pcP s p=pieceR s p:=by
 unfold pcQ pcP pieceR
 rw [h];exact ⟨rfl,rfl⟩
theorem pcQ_no {s:Str} {p:Nat} (h:pcOk s p=false):pcQ s p=p:=by
 unfold pcQ
 rw [h];rfl
theorem stepOk_t {z:Scn} {n:Nat} (h:z.p+n≤z.s.length) (hl:z.s.length≤big):(okS z.s z.p&&stepOk z (n:Int))=true:=by
 rw [okS_t,Bool.true_and]
 unfold stepOk
 rw [decide_eq_true (by omega),ble_t (show z.p+(n:Int).toNat≤z.s.length by omega),ble_t hl];rfl
theorem fl_len (out:List PartR) (b:Str):(fl out b).length≤out.length+1:=by
 cases b with
 | nil=>simp [fl]
 | cons x b=>simp [fl]
theorem byt_u8 (s:Str) (p:Nat):UInt8.ofNat (byt s p).toNat=s.getD p 0:=by
 unfold byt
 simp
def bdV (z:Scn) (out:List PartR) (b:Str):Ex×St Pl :=
 bif byt z.s z.p==34 then (.ret,sBr (z.go (z.p+1)) (fl out b))
 else bif byt z.s z.p==10 then (.ret,sBd z out b)
 else bif byt z.s z.p==92 then (bif !(Nat.blt (z.p+1) z.s.length) then (.ret,sBd z out b) else bif escB (byt z.s (z.p+1)) then (.normal,sBd (z.go (z.p+2)) out (b++[(escV (byt z.s (z.p+1))).toNat.toUInt8])) else (.ret,sBd z out b))
 else bif two z.s z.p 36 123 then (bif pcOk z.s (z.p+2) then (.normal,sBd (z.go (z.p+2+pcn z.s (z.p+2)+1)) (fl out b++[pieceR z.s (z.p+2)]) []) else (.ret,sBd (z.go (z.p+2)) (fl out b) []))
 else (.normal,sBd (z.go (z.p+1)) out (b++[z.s.getD z.p 0]))
theorem bdB_eq {z:Scn} {out:List PartR} {b:Str} (hp:z.p < z.s.length) (hl:z.s.length≤100000) (ho:out.length≤z.p) (hb:b.length≤z.p):bdB z out b=some (bdV z out b):=by
 have hbig:big=140737488355328:=rfl
 have hlb:z.s.length≤big:=by omega
 unfold bdB
 have e:slS z.s z.p (z.s.length:Int)=z.s.drop z.p:=by
  unfold slS
  rw [show ((z.s.length:Int)).toNat=z.s.length from rfl,show (z.p:Int).toNat=z.p from rfl]
  exact List.take_of_length_le (by simp)
 have hlen:(z.s.drop z.p).length=z.s.length - z.p:=List.length_drop
 have h0:0 < (z.s.drop z.p).length:=by omega
 have s1:(okS z.s z.p&&stepOk z 1)=true:=stepOk_t (n:=1) (by omega) hlb
 rw [lt_t hp,ck_t (by unfold slO;rw [decide_eq_true (show (0:Int)≤(z.p:Int) by omega),decide_eq_true (show (z.p:Int)≤(z.s.length:Int) by omega),decide_eq_true (show (z.s.length:Int)≤(z.s.length:Int) by omega)];rfl),e]
 have hc0:Nat.ble ((out.length+1) * 48) big=true:=ble_t (by omega)
 unfold bdR bdV
 rw [ix0_t h0,ix0_t h0,ix0_t h0,byt_drop,Nat.add_zero,ck_t s1,ck_t hc0]
 cases byt z.s z.p==34 with
 | true=>rfl
 | false =>
 cases byt z.s z.p==10 with
 | true=>rfl
 | false =>
 simp only [cond_false]
 cases byt z.s z.p==92 with
 | true =>
  simp only [cond_true]
  unfold bdEs
  rcases Nat.lt_or_ge (z.p+1) z.s.length with h2 | h2
  ·rw [decide_eq_false (show ¬ ((z.s.drop z.p).length:Int) < 2 by omega),cond_false,ck_t (by rw [decide_eq_true (show (1:Int) < ((z.s.drop z.p).length:Int) by omega)];rfl),byt_drop,blt_t h2]
   simp only [Bool.not_true,cond_false]
   cases escB (byt z.s (z.p+1)) with
   | true =>
    simp only [Bool.not_true,cond_false,cond_true]
    rw [apB_t (by omega),ck_t (show (okS z.s z.p&&stepOk z 2)=true from stepOk_t (n:=2) (by omega) hlb)]
    rfl
   | false=>rfl
  ·rw [decide_eq_true (show ((z.s.drop z.p).length:Int) < 2 by omega),blt_f (by omega)]
   rfl
 | false =>
 simp only [cond_false]
 have htwo:preB (z.s.drop z.p) [36,123]=two z.s z.p 36 123:=preB_two z.s z.p 36 123 (by decide)
 rw [htwo]
 cases h36:two z.s z.p 36 123 with
 | true =>
  simp only [cond_true]
  have hp2:=two_in h36 (by decide)
  have hfl:=fl_len out b
  unfold bdPc
  rw [ck_t hc0,ck_t (by rw [okS_t,ble_t (show z.p+2≤z.s.length by omega),ble_t hl];rfl)]
  cases hpc:pcOk z.s (z.p+2) with
  | true =>
   simp only [Bool.not_true,cond_false,cond_true]
   rw [apP_t (by omega),(pcQ_ok hpc).1,(pcQ_ok hpc).2]
  | false =>
   simp only [Bool.not_false,cond_false,cond_true]
   rw [pcQ_no hpc]
 | false =>
  simp only [cond_false]
  unfold bdDf
  rw [ix0_t h0,apB_t (by omega),ck_t s1,byt_drop,Nat.add_zero,byt_u8]
  rfl
end Go.Proofs.YtcgbgcconigdbaaGreatDoor
namespace Go.Proofs.YtcgbgcconigdbaaGreatDoor
open Go.Eng
set_option maxRecDepth 100000
def bodyG:Nat→Str→Nat→Bool
 | 0,_,_=>true
 | k+1,s,p =>
  bif !(Nat.blt p s.length) then true
  else bif byt s p==34 then false
  else bif byt s p==10 then false
  else bif byt s p==92 then (bif !(Nat.blt (p+1) s.length) then false else bif escB (byt s (p+1)) then bodyG k s (p+2) else false)
  else bif two s p 36 123 then (bif pcOk s (p+2) then bodyG k s (p+2+pcn s (p+2)+1) else false)
  else bodyG k s (p+1)
def bodyE (s:Str) (p:Nat):Bool:=bodyG (s.length - p+1) s p
theorem bodyG_any:∀(k k':Nat) (s:Str) (p:Nat),s.length - p < k→s.length - p < k'→bodyG k s p=bodyG k' s p
 | 0,_,_,_,h,_=>by omega
 | _+1,0,_,_,_,h=>by omega
 | k+1,k'+1,s,p,h,h'=>by
  simp only [bodyG]
  cases hb:Nat.blt p s.length with
  | false=>rfl
  | true =>
   rw [Nat.blt_eq] at hb
   rw [bodyG_any k k' s (p+2) (by omega) (by omega),bodyG_any k k' s (p+2+pcn s (p+2)+1) (by omega) (by omega),bodyG_any k k' s (p+1) (by omega) (by omega)]
theorem bodyE_eq (s:Str) (p:Nat):bodyE s p =
  bif !(Nat.blt p s.length) then true
  else bif byt s p==34 then false
  else bif byt s p==10 then false
  else bif byt s p==92 then (bif !(Nat.blt (p+1) s.length) then false else bif escB (byt s (p+1)) then bodyE s (p+2) else false)
  else bif two s p 36 123 then (bif pcOk s (p+2) then bodyE s (p+2+pcn s (p+2)+1) else false)
  else bodyE s (p+1):=by
 unfold bodyE
 conv=>lhs;simp only [bodyG]
 cases hb:Nat.blt p s.length with
 | false=>rfl
 | true =>
  rw [Nat.blt_eq] at hb
  rw [bodyG_any (s.length - p) (s.length - (p+2)+1) s (p+2) (by omega) (by omega),bodyG_any (s.length - p) (s.length - (p+2+pcn s (p+2)+1)+1) s (p+2+pcn s (p+2)+1) (by omega) (by omega),
   bodyG_any (s.length - p) (s.length - (p+1)+1) s (p+1) (by omega) (by omega)]
def sOk (z:Scn):List PartR→St Pl
 | []=>mkS 89 [(2,.nilS),(3,.bool true)] (decH (encS z))
 | y::l=>mkS 89 [(2,.arr 88),(3,.bool true)] ((88,.arr false ⟨.parts,y::l⟩)::decH (encS z))
def sNo (z:Scn):St Pl:=mkS 89 [(2,.nilS),(3,.bool false)] (decH (encS z))
theorem wOkn (s:Str) (p:Nat) (bad:Int) (bp:PosR):normS (keepOf [2,3]) (keepOf [4,5,36]) (sBr ⟨s,p,[],bad,bp⟩ [])=sOk ⟨s,p,[],bad,bp⟩ []:=by kernel_rfl
theorem wOkc (s:Str) (p:Nat) (bad:Int) (bp:PosR) (y:PartR) (l:List PartR):normS (keepOf [2,3]) (keepOf [4,5,36]) (sBr ⟨s,p,[],bad,bp⟩ (y::l))=sOk ⟨s,p,[],bad,bp⟩ (y::l):=by kernel_rfl
theorem wOkn' (s:Str) (p:Nat) (k:TokR) (ks:List TokR) (bad:Int) (bp:PosR):normS (keepOf [2,3]) (keepOf [4,5,36]) (sBr ⟨s,p,k::ks,bad,bp⟩ [])=sOk ⟨s,p,k::ks,bad,bp⟩ []:=by kernel_rfl
theorem wOkc' (s:Str) (p:Nat) (k:TokR) (ks:List TokR) (bad:Int) (bp:PosR) (y:PartR) (l:List PartR):normS (keepOf [2,3]) (keepOf [4,5,36]) (sBr ⟨s,p,k::ks,bad,bp⟩ (y::l))=sOk ⟨s,p,k::ks,bad,bp⟩ (y::l):=by kernel_rfl
theorem wOk (z:Scn) (out:List PartR):normS (keepOf [2,3]) (keepOf [4,5,36]) (sBr z out)=sOk z out:=by
 obtain ⟨s,p,toks,bad,bp⟩:=z
 cases toks<;>cases out
 ·exact wOkn s p bad bp
 ·exact wOkc s p bad bp _ _
 ·exact wOkn' s p _ _ bad bp
 ·exact wOkc' s p _ _ bad bp _ _
theorem wNo (z:Scn) (out:List PartR) (b:Str):normS (keepOf [2,3]) (keepOf [4,5,36,88]) (sBd z out b)=sNo z:=by
 obtain ⟨s,p,toks,bad,bp⟩:=z
 cases toks<;>cases out<;>cases b<;>rfl
def bdRes (z:Scn) (out:List PartR) (b:Str):Ex×St Pl:=bif (bodyM z.s z.p out b).ok then (.ret,sOk (z.go (bodyM z.s z.p out b).q) (bodyM z.s z.p out b).l)
 else bif bodyE z.s z.p then (.exit 0,sNo (z.go (bodyM z.s z.p out b).q)) else (.ret,sNo (z.go (bodyM z.s z.p out b).q))
theorem goOk {z:Scn} {out:List PartR} {b:Str} {z':Scn} {out':List PartR} (h:bdB z out b=some (.ret,sBr z' out')):Goes X0 (loopAt 36 0) (sBd z out b) .ret (sOk z' out'):=by
 have:=(goBd z out b h).norm xok (keepOf [2,3]) (keepOf [4,5,36])
 rwa [wOk] at this
theorem goNo {z:Scn} {out:List PartR} {b:Str} {z':Scn} {out':List PartR} {b':Str} {e:Ex} (h:bdB z out b=some (e,sBd z' out' b')):Goes X0 (loopAt 36 0) (sBd z out b) e (sNo z'):=by
 have:=(goBd z out b h).norm xok (keepOf [2,3]) (keepOf [4,5,36,88])
 rwa [wNo] at this
theorem loopBd (z:Scn) (hp:z.p≤z.s.length) (hl:z.s.length≤100000):Goes X0 (.loop (loopAt 36 0)) (sBd z [] []) (bdRes z [] []).1 (bdRes z [] []).2:=by
 refine loop_run (A:=Scn×List PartR×Str) (Sf:=fun a=>sBd a.1 a.2.1 a.2.2) (fun a=>a.1.p≤a.1.s.length∧a.1.s.length≤100000∧a.2.1.length≤a.1.p∧a.2.2.length≤a.1.p)
  (fun a=>a.1.s.length - a.1.p) (fun a=>bdRes a.1 a.2.1 a.2.2) ?_ (z,[],[]) ⟨hp,hl,Nat.zero_le _,Nat.zero_le _⟩
 rintro ⟨z,out,b⟩ ⟨hp,hl,ho,hb⟩
 simp only at hp hl ho hb ⊢
 rcases Nat.lt_or_ge z.p z.s.length with h | h
 ·have e:=bdB_eq h hl ho hb
  have em:=bodyM_eq (s:=z.s) (p:=z.p) out b
  have ee:=bodyE_eq z.s z.p
  rw [blt_t h] at em ee
  simp only [Bool.not_true,cond_false] at em ee
  unfold bdV at e
  cases h34:byt z.s z.p==34 with
  | true =>
   rw [h34] at e em ee
   have hr:bdRes z out b=(.ret,sOk (z.go (z.p+1)) (fl out b)):=by unfold bdRes;rw [em];rfl
   rw [hr]
   exact .inr ⟨by simp,goOk e⟩
  | false =>
  cases h10:byt z.s z.p==10 with
  | true =>
   rw [h34,h10] at e em ee
   have hr:bdRes z out b=(.ret,sNo z):=by unfold bdRes;rw [em,ee];rfl
   rw [hr]
   exact .inr ⟨by simp,goNo e⟩
  | false =>
  rw [h34,h10] at e em ee
  simp only [cond_false] at e em ee
  cases h92:byt z.s z.p==92 with
  | true =>
   rw [h92] at e em ee
   simp only [cond_true] at e em ee
   rcases Nat.lt_or_ge (z.p+1) z.s.length with h2 | h2
   ·rw [blt_t h2] at e em ee
    simp only [Bool.not_true,cond_false] at e em ee
    cases hes:escB (byt z.s (z.p+1)) with
    | true =>
     rw [hes] at e em ee
     refine .inl ⟨(z.go (z.p+2),out,b++[(escV (byt z.s (z.p+1))).toNat.toUInt8]),⟨by show z.p+2≤z.s.length;omega,hl,by show out.length≤z.p+2;omega,by show (b++_).length≤z.p+2;rw [List.length_append,List.length_singleton];omega⟩,
      by show z.s.length - (z.p+2) < z.s.length - z.p;omega,?_,goBd z out b e⟩
     unfold bdRes
     rw [em,ee];rfl
    | false =>
     rw [hes] at e em ee
     have hr:bdRes z out b=(.ret,sNo z):=by unfold bdRes;rw [em,ee];rfl
     rw [hr]
     exact .inr ⟨by simp,goNo e⟩
   ·rw [blt_f (show ¬ z.p+1 < z.s.length by omega)] at e em ee
    have hr:bdRes z out b=(.ret,sNo z):=by unfold bdRes;rw [em,ee];rfl
    rw [hr]
    exact .inr ⟨by simp,goNo e⟩
  | false =>
  rw [h92] at e em ee
  simp only [cond_false] at e em ee
  cases h36:two z.s z.p 36 123 with
  | true =>
   rw [h36] at e em ee
   simp only [cond_true] at e em ee
   have hp2:=two_in h36 (by decide)
   have hfl:=fl_len out b
   cases hpc:pcOk z.s (z.p+2) with
   | true =>
    rw [hpc] at e em ee
    have hlt:=pcOk_lt hpc
    refine .inl ⟨(z.go (z.p+2+pcn z.s (z.p+2)+1),fl out b++[pieceR z.s (z.p+2)],[]),⟨by show z.p+2+pcn z.s (z.p+2)+1≤z.s.length;omega,hl,by show (fl out b++_).length≤z.p+2+pcn z.s (z.p+2)+1;rw [List.length_append,List.length_singleton];omega,Nat.zero_le _⟩,
     by show z.s.length - (z.p+2+pcn z.s (z.p+2)+1) < z.s.length - z.p;omega,?_,goBd z out b e⟩
    unfold bdRes
    rw [em,ee];rfl
   | false =>
    rw [hpc] at e em ee
    have hr:bdRes z out b=(.ret,sNo (z.go (z.p+2))):=by unfold bdRes;rw [em,ee];rfl
    rw [hr]
    exact .inr ⟨by simp,goNo e⟩
  | false =>
   rw [h36] at e em ee
   refine .inl ⟨(z.go (z.p+1),out,b++[z.s.getD z.p 0]),⟨by show z.p+1≤z.s.length;omega,hl,by show out.length≤z.p+1;omega,by show (b++_).length≤z.p+1;rw [List.length_append,List.length_singleton];omega⟩,
    by show z.s.length - (z.p+1) < z.s.length - z.p;omega,?_,goBd z out b e⟩
   unfold bdRes
   rw [em,ee];rfl
 ·have em:=bodyM_eq (s:=z.s) (p:=z.p) out b
  have ee:=bodyE_eq z.s z.p
  rw [blt_f (by omega)] at em ee
  have hr:bdRes z out b=(.exit 0,sNo z):=by unfold bdRes;rw [em,ee];rfl
  rw [hr]
  refine .inr ⟨by simp,goNo (z':=z) (out':=out) (b':=b) ?_⟩
  unfold bdB
  rw [lt_f (by omega)]
def rBd (z:Scn):LR Pl:=.ite (bodyM z.s z.p [] []).ok
 (.ite (bodyM z.s z.p [] []).l.isEmpty (.leaf .ret (mkS 89 [(2,.nilS),(3,.bool true)] (decH (encS (z.go (bodyM z.s z.p [] []).q)))))
  (.leaf .ret (mkS 89 [(2,.arr 88),(3,.bool true)] ((88,.arr false ⟨.parts,(bodyM z.s z.p [] []).l⟩)::decH (encS (z.go (bodyM z.s z.p [] []).q))))))
 (.ite (bodyE z.s z.p) (.leaf (.exit 0) (sNo (z.go (bodyM z.s z.p [] []).q))) (.leaf .ret (sNo (z.go (bodyM z.s z.p [] []).q))))
theorem rBd_eq (z:Scn):pickR (rBd z)=bdRes z [] []:=by
 unfold rBd bdRes
 generalize bodyM z.s z.p [] []=o
 obtain ⟨ok,l,q⟩:=o
 cases ok<;>cases bodyE z.s z.p<;>cases l<;>rfl
def LS4 (S:St Pl):Option (Bool×LR Pl):=match seenS 89 [0,2,3,4,5,6] S with
 | some ([.ptr 50000 0,.nilS,.bool false,.ptr 4 0,.ptr 5 0,.fn 43 [.ptr 5 0,.ptr 4 0]],(5,.box false [.nilS])::(4,.box false [.nilS])::H)=>match decO H with
  | some (c,z)=>some (c&&(Nat.ble z.p z.s.length&&Nat.ble z.s.length 100000),rBd z)
  | none=>none
 | _=>none
theorem LS4_ok:SOk X0 (loopAt 36 0) LS4:=by
 intro S b r h hb
 unfold LS4 at h
 split at h
 ·rename_i H hs
  split at h
  ·rename_i c z hd
   simp only [Option.some.injEq,Prod.mk.injEq] at h
   obtain ⟨rfl,rfl⟩:=h
   simp only [Bool.and_eq_true,Nat.ble_eq] at hb
   obtain ⟨rfl,h1,h2⟩:=hb
   refine Goes.pre (keepOf [0,2,3,4,5,6]) ?_
   rw [seenS_mask hs,decO_eq hd rfl,rBd_eq]
   exact loopBd z h1 h2
  ·simp at h
 ·simp at h
end Go.Proofs.YtcgbgcconigdbaaGreatDoor
namespace Go.Proofs.YtcgbgcconigdbaaGreatDoor
open Go.Eng
set_option maxRecDepth 100000
def bdF (z:Scn):Option (D Pl):=ck_ (okS z.s z.p&&(Nat.ble z.p z.s.length&&Nat.ble z.s.length 100000))
 (bif (bodyM z.s z.p [] []).ok then (bif (bodyM z.s z.p [] []).l.isEmpty then some (.env (encS (z.go (bodyM z.s z.p [] []).q)) (.tup [.nilS,.bool true])) else some (.env (encS (z.go (bodyM z.s z.p [] []).q)) (.tup [.pl (pParts (bodyM z.s z.p [] []).l) .any,.bool true])))
  else bif bodyE z.s z.p then some (.env (encS (z.go (bodyM z.s z.p [] []).q)) (.tup [.nilS,.bool false])) else some (.env (encS (z.go (bodyM z.s z.p [] []).q)) (.tup [.nilS,.bool false])))
theorem e30n (s:Str) (p:Nat) (bad:Int) (bp:PosR):evM tell0 noTL (atL 4 LS4 noL) 1 Tryz.f36 (decH (encS ⟨s,p,[],bad,bp⟩)) [.ptr 50000 0]=bdF ⟨s,p,[],bad,bp⟩:=by kernel_rfl
theorem e30c (s:Str) (p:Nat) (x:TokR) (l:List TokR) (bad:Int) (bp:PosR):evM tell0 noTL (atL 4 LS4 noL) 1 Tryz.f36 (decH (encS ⟨s,p,x::l,bad,bp⟩)) [.ptr 50000 0]=bdF ⟨s,p,x::l,bad,bp⟩:=by kernel_rfl
theorem bodyM_no (s:Str):∀(n p:Nat) (out:List PartR) (b:Str),s.length - p=n→(bodyM s p out b).ok=false→(bodyM s p out b).l=[]:=by
 intro n
 induction n using Nat.strongRecOn with
 | _ n ih =>
  intro p out b hn
  rw [bodyM_eq]
  rcases Nat.lt_or_ge p s.length with h | h
  ·rw [blt_t h]
   simp only [Bool.not_true,cond_false]
   cases byt s p==34 with
   | true=>intro h;cases h
   | false =>
   cases byt s p==10 with
   | true=>intro _;rfl
   | false =>
   cases byt s p==92 with
   | true =>
    simp only [cond_true,cond_false]
    cases Nat.blt (p+1) s.length with
    | false=>intro _;rfl
    | true =>
     cases escB (byt s (p+1)) with
     | true=>exact ih (s.length - (p+2)) (by omega) (p+2) _ _ rfl
     | false=>intro _;rfl
   | false =>
   cases two s p 36 123 with
   | true =>
    simp only [cond_true,cond_false]
    cases pcOk s (p+2) with
    | true=>exact ih (s.length - (p+2+pcn s (p+2)+1)) (by omega) _ _ _ rfl
    | false=>intro _;rfl
   | false=>exact ih (s.length - (p+1)) (by omega) _ _ _ rfl
  ·rw [blt_f (by omega)];intro _;rfl
theorem bodies (z:Scn) (hp:z.p≤z.s.length) (hl:z.s.length≤100000) :
  SndS 36 z [] (.tup [.pl (pParts (bodyM z.s z.p [] []).l) .any,.bool (bodyM z.s z.p [] []).ok]) (z.go (bodyM z.s z.p [] []).q):=by
 have hL:=loops_of (f:=36) (fn:=Tryz.f36) (by kernel_rfl) (loops_1 ids30.1 (L:=atL 4 LS4 noL) (atL_ok (fun _=>LS4_ok) fun h=>absurd ids30.2.1 h))
 have hno:=bodyM_no z.s _ z.p [] [] rfl
 have hle:∀(l:List PartR) (ok:Bool),l=[]→RDle X0.C (.tup [.nilS,.bool ok]) (.tup [.pl (pParts l) .any,.bool ok]):=fun l ok h =>
  RDle.tup (.cons (RDle.of (by subst h;exact .nil _ rfl)) (.cons (RDle.refl _) .nil))
 have key:∃d,bdF z=some (.env (encS (z.go (bodyM z.s z.p [] []).q)) d)∧RDle X0.C d (.tup [.pl (pParts (bodyM z.s z.p [] []).l) .any,.bool (bodyM z.s z.p [] []).ok]):=by
  unfold bdF
  rw [ck_t (by rw [okS_t,ble_t hp,ble_t hl];rfl)]
  cases ho:(bodyM z.s z.p [] []).ok with
  | true =>
   cases he:(bodyM z.s z.p [] []).l.isEmpty with
   | true=>exact ⟨_,rfl,hle _ _ (List.isEmpty_iff.1 he)⟩
   | false=>exact ⟨_,rfl,RDle.refl _⟩
  | false =>
   have:=hle _ false (hno ho)
   cases bodyE z.s z.p<;>exact ⟨_,rfl,this⟩
 obtain ⟨d,h1,h2⟩:=key
 refine SoundM.post h2 ?_
 obtain ⟨s,p,toks,bad,bp⟩:=z
 cases toks with
 | nil=>exact snd_m (n:=1) (tell0_ok _) (noTL_ok _ _) (fn:=Tryz.f36) (by kernel_rfl) hL ((e30n s p bad bp).trans h1)
 | cons x l=>exact snd_m (n:=1) (tell0_ok _) (noTL_ok _ _) (fn:=Tryz.f36) (by kernel_rfl) hL ((e30c s p x l bad bp).trans h1)
def pBody (z:Scn):List (D Pl)→Option (Bool×D Pl×Scn)
 | []=>some (Nat.ble z.p z.s.length&&Nat.ble z.s.length 100000,.tup [.pl (pParts (bodyM z.s z.p [] []).l) .any,.bool (bodyM z.s z.p [] []).ok],z.go (bodyM z.s z.p [] []).q)
 | _=>none
theorem pBody_ok:∀z args c d z',pBody z args=some (c,d,z')→c=true→SndS 36 z args d z':=by
 intro z args c d z' h hc
 unfold pBody at h
 split at h
 ·simp only [Option.some.injEq,Prod.mk.injEq] at h
  obtain ⟨rfl,rfl,rfl⟩:=h
  simp only [Bool.and_eq_true,Nat.ble_eq] at hc
  exact bodies z hc.1 hc.2
 ·simp at h
end Go.Proofs.YtcgbgcconigdbaaGreatDoor
