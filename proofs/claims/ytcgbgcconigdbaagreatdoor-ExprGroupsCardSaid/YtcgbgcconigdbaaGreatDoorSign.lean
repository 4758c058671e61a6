/-
 THE SCANNER READS A NUMBER.
-/
import Derived.Test.YtcgbgcconigdbaaGreatDoorModel
import Derived.Test.YtcgbgcconigdbaaGreatDoorRounds
import Derived.Test.YtcgbgcconigdbaaGreatDoorLook
namespace Go.Proofs.YtcgbgcconigdbaaGreatDoor
open Go.Eng
set_option maxRecDepth 100000
noncomputable def tNum:Eng.Told Pl:=tRun (tell 35 (pS fun s=>Nu.prT (Nu.parseV s)) tell0)
theorem tNum_ok:TOk tNum:=tRun_ok (tell_ok (pS_ok Nu.parse_sound) (tell0_ok _))
def tokI (t:TokR) (n:Int):TokR:=⟨2,t.s,n,t.parts,t.p⟩
def numR (z:Scn) (t:TokR) (v:Str):Option (D Pl) :=
 ck_ (okS z.s z.p&&stepOk z (v.length:Int)) (some (.env (encS (z.go (z.p+(v.length:Int).toNat))) (.agg (cTok (tokI t (Nu.parseV v).1)))))
def numB (z:Scn) (t:TokR) (v:Str):Option (D Pl):=bif !((Nu.parseV v).2==0) then ck_ (okS z.s z.p&&true) (numR (Scn.fail z (Nu.parseV v).2 t.p) t v) else numR z t v
theorem e23n (s:Str) (p:Nat) (bad:Int) (bp:PosR) (t:TokR):evM tNum noTL noL 2 Tryz.f26 (decH (encS ⟨s,p,[],bad,bp⟩)) [.ptr 50000 0,.agg (cTok t)] =
  ck_ (Nat.ble p s.length&&Nat.ble s.length big) (ck_ (slO p (w64 ((p:Int)+(runM s p:Int))) s.length) (numB ⟨s,p,[],bad,bp⟩ t (slS s p (w64 ((p:Int)+(runM s p:Int)))))):=by kernel_rfl
theorem e23c (s:Str) (p:Nat) (x:TokR) (l:List TokR) (bad:Int) (bp:PosR) (t:TokR):evM tNum noTL noL 2 Tryz.f26 (decH (encS ⟨s,p,x::l,bad,bp⟩)) [.ptr 50000 0,.agg (cTok t)] =
  ck_ (Nat.ble p s.length&&Nat.ble s.length big) (ck_ (slO p (w64 ((p:Int)+(runM s p:Int))) s.length) (numB ⟨s,p,x::l,bad,bp⟩ t (slS s p (w64 ((p:Int)+(runM s p:Int)))))):=by kernel_rfl
theorem ids23:(loopsAt 26).length=0:=by kernel_rfl
def Scn.past (z:Scn) (e:Int) (q:PosR) (p:Nat):Scn:=({ z with bad:=bif e==0 then z.bad else (z.fail e q).bad,bp:=bif e==0 then z.bp else (z.fail e q).bp }:Scn).go p
theorem slS_eq {s:Str} {p n:Nat} (h:p+n≤s.length) (hl:s.length≤big):slO p (w64 ((p:Int)+(n:Int))) s.length=true∧slS s p (w64 ((p:Int)+(n:Int)))=sl s p n:=by
 have hbig:big=140737488355328:=rfl
 have hw:w64 ((p:Int)+(n:Int))=((p+n:Nat):Int):=by
  rw [show (p:Int)+(n:Int)=((p+n:Nat):Int) by omega]
  exact wrap_in _ (by omega)
 rw [hw]
 constructor
 ·unfold slO
  rw [decide_eq_true (show (0:Int)≤(p:Int) by omega),decide_eq_true (show (p:Int)≤((p+n:Nat):Int) by omega),decide_eq_true (show ((p+n:Nat):Int)≤(s.length:Int) by omega)];rfl
 ·unfold slS sl
  rw [show ((p+n:Nat):Int).toNat - (p:Int).toNat=n by omega,show (p:Int).toNat=p by omega]
theorem numR_eq {z:Scn} {t:TokR} {v:Str} (h:z.p+v.length≤z.s.length) (hl:z.s.length≤big):numR z t v=some (.env (encS (z.go (z.p+v.length))) (.agg (cTok (tokI t (Nu.parseV v).1)))):=by
 unfold numR
 rw [ck_t (by
  rw [okS_t,Bool.true_and]
  unfold stepOk
  rw [decide_eq_true (by omega),ble_t (show z.p+(v.length:Int).toNat≤z.s.length by omega),ble_t hl];rfl)]
 rw [show (v.length:Int).toNat=v.length by omega]
theorem sl_len {s:Str} {p n:Nat} (h:p+n≤s.length):(sl s p n).length=n:=by
 unfold sl
 rw [List.length_take,List.length_drop];omega
theorem numbers (z:Scn) (t:TokR) (hp:z.p≤z.s.length) (hl:z.s.length≤big) :
  SndS 26 z [.agg (cTok t)] (.agg (cTok (tokI t (numO z.s z.p).t.n))) (z.past (numO z.s z.p).e t.p (numO z.s z.p).q):=by
 have hL:=loops_of (f:=26) (fn:=Tryz.f26) (by kernel_rfl) (loops_0 ids23 (L:=noL))
 have hn:=runM_le z.s z.p
 have hle:z.p+runM z.s z.p≤z.s.length:=by omega
 obtain ⟨h1,h2⟩:=slS_eq hle hl
 have hlen:=sl_len hle
 have key:ck_ (Nat.ble z.p z.s.length&&Nat.ble z.s.length big) (ck_ (slO z.p (w64 ((z.p:Int)+(runM z.s z.p:Int))) z.s.length) (numB z t (slS z.s z.p (w64 ((z.p:Int)+(runM z.s z.p:Int)))))) =
   some (.env (encS (z.past (numO z.s z.p).e t.p (numO z.s z.p).q)) (.agg (cTok (tokI t (numO z.s z.p).t.n)))):=by
  rw [ck_t (by rw [ble_t hp,ble_t hl];rfl),ck_t h1,h2]
  unfold numB Scn.past numO
  simp only
  cases he:(Nu.parseV (sl z.s z.p (runM z.s z.p))).2==0 with
  | true =>
   simp only [Bool.not_true,cond_false,cond_true]
   rw [numR_eq (by rw [hlen];exact hle) hl,hlen]
  | false =>
   simp only [Bool.not_false,cond_true,cond_false]
   rw [ck_t (by rw [okS_t];rfl)]
   exact (numR_eq (z:=Scn.fail z _ t.p) (by rw [hlen];exact hle) hl).trans (by rw [hlen];rfl)
 obtain ⟨s,p,toks,bad,bp⟩:=z
 cases toks with
 | nil=>exact snd_m (n:=2) tNum_ok (noTL_ok _ _) (fn:=Tryz.f26) (by kernel_rfl) hL ((e23n s p bad bp t).trans key)
 | cons x l=>exact snd_m (n:=2) tNum_ok (noTL_ok _ _) (fn:=Tryz.f26) (by kernel_rfl) hL ((e23c s p x l bad bp t).trans key)
end Go.Proofs.YtcgbgcconigdbaaGreatDoor
namespace Go.Proofs.YtcgbgcconigdbaaGreatDoor
open Go.Eng
set_option maxRecDepth 100000
noncomputable def tB:Eng.Told Pl:=tellM 22 (pM pStep) (tLk tell0)
theorem tB_ok:TOk tB:=tellM_ok (pM_ok pStep_ok) (tLk_ok (tell0_ok _))
def sB (nm:Nat) (z:Scn):St Pl:=mkS 55 [(0,.ptr 50000 0)] (encN nm z)
def stL (z:Scn) (n:Int):Option (Ex×St Pl):=ck_ (okS z.s z.p&&stepOk z n) (some (.normal,sB 60000010 (z.go (z.p+n.toNat))))
def rmL (z:Scn):Option (Ex×St Pl):=ck_ (slO z.p (z.s.length:Int) z.s.length)
 (bif decide (Lib.indexByte (slS z.s z.p (z.s.length:Int)) 10 < 0) then stL z (w64 ((z.s.length:Int) - (z.p:Int))) else stL z (Lib.indexByte (slS z.s z.p (z.s.length:Int)) 10))
def blL (nm:Nat) (z:Scn) (k:Int):Option (Ex×St Pl):=bif byt z.s z.p==k then stL z 1 else bif byt z.s z.p==35 then rmL z else some (.ret,sB nm z)
def blB (nm:Nat) (z:Scn):Option (Ex×St Pl):=lt_ z.p z.s.length (ix_ z.p z.s.length (bif byt z.s z.p==32 then blL nm z 32 else bif byt z.s z.p==10 then blL nm z 10 else blL nm z 9)) (some (.exit 0,sB nm z))
theorem b15n (nm:Nat) (s:Str) (p:Nat) (bad:Int) (bp:PosR):evC tB noTL noL 3 (loopAt 17 0) [0] (sB nm ⟨s,p,[],bad,bp⟩)=blB nm ⟨s,p,[],bad,bp⟩:=by kernel_rfl
theorem b15c (s:Str) (p:Nat) (x:TokR) (l:List TokR) (bad:Int) (bp:PosR):evC tB noTL noL 3 (loopAt 17 0) [0] (sB 100010 ⟨s,p,x::l,bad,bp⟩)=blB 100010 ⟨s,p,x::l,bad,bp⟩:=by kernel_rfl
theorem b15d (s:Str) (p:Nat) (x:TokR) (l:List TokR) (bad:Int) (bp:PosR):evC tB noTL noL 3 (loopAt 17 0) [0] (sB 60000010 ⟨s,p,x::l,bad,bp⟩)=blB 60000010 ⟨s,p,x::l,bad,bp⟩:=by kernel_rfl
theorem ids15:(loopsAt 17).length=1∧firstId (loopAt 17 0)=0∧loopsOf (loopAt 17 0)=[]:=⟨by kernel_rfl,by kernel_rfl,by kernel_rfl⟩
theorem goB {nm:Nat} (hnm:nm=100010∨nm=60000010) (z:Scn) {e:Ex} {S:St Pl} (h:blB nm z=some (e,S)):Goes X0 (loopAt 17 0) (sB nm z) e S:=by
 obtain ⟨s,p,toks,bad,bp⟩:=z
 cases toks with
 | nil=>exact goes_of tB_ok (noTL_ok _ _) (noLoops ids15.2.2) ((b15n nm s p bad bp).trans h)
 | cons x l =>
  rcases hnm with rfl | rfl
  ·exact goes_of tB_ok (noTL_ok _ _) (noLoops ids15.2.2) ((b15c s p x l bad bp).trans h)
  ·exact goes_of tB_ok (noTL_ok _ _) (noLoops ids15.2.2) ((b15d s p x l bad bp).trans h)
theorem stL_eq {z:Scn} {n:Nat} (h:z.p+n≤z.s.length) (hl:z.s.length≤big):stL z (n:Int)=some (.normal,sB 60000010 (z.go (z.p+n))):=by
 unfold stL
 rw [ck_t (by
  rw [okS_t,Bool.true_and]
  unfold stepOk
  rw [decide_eq_true (by omega),ble_t (show z.p+(n:Int).toNat≤z.s.length by omega),ble_t hl];rfl)]
 rw [show (n:Int).toNat=n by omega]
theorem rmL_eq {z:Scn} (h:z.p < z.s.length) (hl:z.s.length≤big):rmL z=some (.normal,sB 60000010 (z.go (z.p+cmt z.s z.p))):=by
 have hbig:big=140737488355328:=rfl
 unfold rmL
 have e:slS z.s z.p (z.s.length:Int)=z.s.drop z.p:=by
  unfold slS
  rw [show ((z.s.length:Int)).toNat=z.s.length from rfl,show (z.p:Int).toNat=z.p from rfl]
  exact List.take_of_length_le (by simp)
 have hw:w64 ((z.s.length:Int) - (z.p:Int))=((z.s.length - z.p:Nat):Int):=by
  rw [show (z.s.length:Int) - (z.p:Int)=((z.s.length - z.p:Nat):Int) by omega]
  exact wrap_in _ (by omega)
 have hle:=cmt_le z.s z.p
 have hix:Lib.indexByte (z.s.drop z.p) 10=bif Nat.blt (cmt z.s z.p) (z.s.drop z.p).length then ((cmt z.s z.p:Nat):Int) else -1:=indexByte_ff (z.s.drop z.p) 10
 rw [ck_t (by unfold slO;rw [decide_eq_true (show (0:Int)≤(z.p:Int) by omega),decide_eq_true (show (z.p:Int)≤(z.s.length:Int) by omega),decide_eq_true (show (z.s.length:Int)≤(z.s.length:Int) by omega)];rfl),e,hw,hix]
 cases hb:Nat.blt (cmt z.s z.p) (z.s.drop z.p).length with
 | true =>
  rw [cond_true,decide_eq_false (show ¬ ((cmt z.s z.p:Nat):Int) < 0 by omega),cond_false]
  exact stL_eq (by omega) hl
 | false =>
  have h2:cmt z.s z.p=z.s.length - z.p:=by
   rcases Nat.lt_or_ge (cmt z.s z.p) (z.s.drop z.p).length with h3 | h3
   ·rw [blt_t h3] at hb;cases hb
   ·rw [List.length_drop] at h3;omega
  rw [cond_false,decide_eq_true (show (-1:Int) < 0 by decide),cond_true,h2]
  exact stL_eq (by omega) hl
theorem blB_eq {nm:Nat} {z:Scn} (h:z.p < z.s.length) (hl:z.s.length≤big):blB nm z=bif isB (byt z.s z.p) then some (.normal,sB 60000010 (z.go (z.p+1))) else bif byt z.s z.p==35 then some (.normal,sB 60000010 (z.go (z.p+cmt z.s z.p))) else some (.ret,sB nm z):=by
 unfold blB
 rw [lt_t h,ix_t h]
 unfold blL isB
 have h1:stL z 1=some (.normal,sB 60000010 (z.go (z.p+1))):=stL_eq (n:=1) (by omega) hl
 rw [h1,rmL_eq h hl]
 cases byt z.s z.p==32<;>cases byt z.s z.p==10<;>cases byt z.s z.p==9<;>rfl
def blkR (nm:Nat) (z:Scn):Ex×St Pl:=(bif Nat.blt (blankM z.s z.p) z.s.length then .ret else .exit 0,sB (bif Nat.beq (blankM z.s z.p) z.p then nm else 60000010) (z.go (blankM z.s z.p)))
def rB (z:Scn):LR Pl:=.ite (Nat.blt (blankM z.s z.p) z.s.length)
 (.ite (Nat.beq (blankM z.s z.p) z.p) (.leaf .ret (sB 100010 (z.go (blankM z.s z.p)))) (.leaf .ret (sB 60000010 (z.go (blankM z.s z.p)))))
 (.ite (Nat.beq (blankM z.s z.p) z.p) (.leaf (.exit 0) (sB 100010 (z.go (blankM z.s z.p)))) (.leaf (.exit 0) (sB 60000010 (z.go (blankM z.s z.p)))))
theorem rB_eq (z:Scn):pickR (rB z)=blkR 100010 z:=by
 unfold rB blkR
 simp only [pickR]
 cases Nat.blt (blankM z.s z.p) z.s.length<;>cases Nat.beq (blankM z.s z.p) z.p<;>rfl
theorem blkR_go {nm:Nat} {z:Scn} {n:Nat} (hn:0 < n) (h:z.p+n≤z.s.length) (hb:blankM z.s z.p=blankM z.s (z.p+n)):blkR nm z=blkR 60000010 (z.go (z.p+n)):=by
 have h1:=(blankM_in z.s _ (z.p+n) rfl h).1
 have h2:Nat.beq (blankM z.s z.p) z.p=false:=by
  cases hx:Nat.beq (blankM z.s z.p) z.p with
  | false=>rfl
  | true=>have:=Nat.eq_of_beq_eq_true hx;omega
 unfold blkR
 rw [h2]
 show _=(_,sB (bif Nat.beq (blankM z.s (z.p+n)) (z.p+n) then 60000010 else 60000010) (z.go (blankM z.s (z.p+n))))
 rw [←hb]
 show (bif Nat.blt (blankM z.s z.p) z.s.length then Ex.ret else .exit 0,_)=(bif Nat.blt (blankM z.s (z.p+n)) z.s.length then Ex.ret else .exit 0,_)
 rw [←hb]
 cases Nat.beq (blankM z.s z.p) (z.p+n)<;>rfl
theorem loopB (z:Scn) (hp:z.p≤z.s.length) (hl:z.s.length≤big):Goes X0 (.loop (loopAt 17 0)) (sB 100010 z) (pickR (rB z)).1 (pickR (rB z)).2:=by
 rw [rB_eq]
 refine loop_run (A:=Nat×Scn) (Sf:=fun a=>sB a.1 a.2) (fun a=>(a.1=100010∨a.1=60000010)∧a.2.p≤a.2.s.length∧a.2.s.length≤big) (fun a=>a.2.s.length - a.2.p) (fun a=>blkR a.1 a.2) ?_ (100010,z) ⟨.inl rfl,hp,hl⟩
 rintro ⟨nm,z⟩ ⟨hnm,hp,hl⟩
 simp only at hnm hp hl ⊢
 rcases Nat.lt_or_ge z.p z.s.length with h | h
 ·have e:=blB_eq (nm:=nm) h hl
  have hb:=blankM_eq h
  cases hB:isB (byt z.s z.p) with
  | true =>
   rw [hB] at e hb
   exact .inl ⟨(60000010,z.go (z.p+1)),⟨.inr rfl,by show z.p+1≤_;exact h,hl⟩,by show z.s.length - (z.p+1) < z.s.length - z.p;omega,blkR_go (by omega) h hb,goB hnm z e⟩
  | false =>
   cases hc:byt z.s z.p==35 with
   | true =>
    rw [hB,hc] at e hb
    have h1:=cmt_pos h hc
    have h2:=cmt_le z.s z.p
    exact .inl ⟨(60000010,z.go (z.p+cmt z.s z.p)),⟨.inr rfl,by show z.p+cmt z.s z.p≤z.s.length;omega,hl⟩,by show z.s.length - (z.p+cmt z.s z.p) < z.s.length - z.p;omega,blkR_go h1 (by omega) hb,goB hnm z e⟩
   | false =>
    rw [hB,hc] at e hb
    have hb:blankM z.s z.p=z.p:=hb
    have hr:blkR nm z=(.ret,sB nm z):=by
     unfold blkR
     rw [hb,blt_t h,Nat.beq_refl];rfl
    rw [hr]
    exact .inr ⟨by simp,goB hnm z e⟩
 ·have hb:=blankM_end (s:=z.s) (p:=z.p) (by omega)
  have hlt:Nat.blt z.p z.s.length=false:=by
   cases hx:Nat.blt z.p z.s.length with
   | false=>rfl
   | true=>rw [Nat.blt_eq] at hx;omega
  have hr:blkR nm z=(.exit 0,sB nm z):=by
   unfold blkR
   rw [hb,hlt,Nat.beq_refl];rfl
  rw [hr]
  refine .inr ⟨by simp,goB hnm z ?_⟩
  unfold blB
  rw [lt_f (by omega)]
def LS15 (S:St Pl):Option (Bool×LR Pl):=match seenS 55 [0] S with
 | some ([.ptr 50000 0],H)=>match decO H with
  | some (c,z)=>some (c&&(Nat.ble z.p z.s.length&&Nat.ble z.s.length big),rB z)
  | none=>none
 | _=>none
theorem LS15_ok:SOk X0 (loopAt 17 0) LS15:=by
 intro S b r h hb
 unfold LS15 at h
 split at h
 ·rename_i H hs
  split at h
  ·rename_i c z hd
   simp only [Option.some.injEq,Prod.mk.injEq] at h
   obtain ⟨rfl,rfl⟩:=h
   simp only [Bool.and_eq_true,Nat.ble_eq] at hb
   obtain ⟨rfl,h1,h2⟩:=hb
   refine Goes.pre (keepOf [0]) ?_
   rw [seenS_mask hs,decO_eq hd rfl]
   obtain ⟨s,p,toks,bad,bp⟩:=z
   cases toks<;>exact loopB _ h1 h2
  ·simp at h
 ·simp at h
def blE (z:Scn):Option (D Pl):=some (.env (encS (z.go (blankM z.s z.p))) (.tup []))
def blR (z:Scn):Option (D Pl):=ck_ (okS z.s z.p&&(Nat.ble z.p z.s.length&&Nat.ble z.s.length big))
 (bif Nat.blt (blankM z.s z.p) z.s.length then (bif Nat.beq (blankM z.s z.p) z.p then blE z else blE z) else (bif Nat.beq (blankM z.s z.p) z.p then blE z else blE z))
theorem e15n (s:Str) (p:Nat) (bad:Int) (bp:PosR):evM tell0 noTL (atL 0 LS15 noL) 1 Tryz.f17 (decH (encS ⟨s,p,[],bad,bp⟩)) [.ptr 50000 0]=blR ⟨s,p,[],bad,bp⟩:=by kernel_rfl
theorem e15c (s:Str) (p:Nat) (x:TokR) (l:List TokR) (bad:Int) (bp:PosR):evM tell0 noTL (atL 0 LS15 noL) 1 Tryz.f17 (decH (encS ⟨s,p,x::l,bad,bp⟩)) [.ptr 50000 0]=blR ⟨s,p,x::l,bad,bp⟩:=by kernel_rfl
theorem blanks (z:Scn) (hp:z.p≤z.s.length) (hl:z.s.length≤big):SndS 17 z [] (.tup []) (z.go (blankM z.s z.p)):=by
 have hL:=loops_of (f:=17) (fn:=Tryz.f17) (by kernel_rfl) (loops_1 ids15.1 (L:=atL 0 LS15 noL) (atL_ok (fun _=>LS15_ok) fun h=>absurd ids15.2.1 h))
 have key:blR z=some (.env (encS (z.go (blankM z.s z.p))) (.tup [])):=by
  unfold blR
  rw [ck_t (by rw [okS_t,ble_t hp,ble_t hl];rfl)]
  cases Nat.blt (blankM z.s z.p) z.s.length<;>cases Nat.beq (blankM z.s z.p) z.p<;>rfl
 obtain ⟨s,p,toks,bad,bp⟩:=z
 cases toks with
 | nil=>exact snd_m (n:=1) (tell0_ok _) (noTL_ok _ _) (fn:=Tryz.f17) (by kernel_rfl) hL ((e15n s p bad bp).trans key)
 | cons x l=>exact snd_m (n:=1) (tell0_ok _) (noTL_ok _ _) (fn:=Tryz.f17) (by kernel_rfl) hL ((e15c s p x l bad bp).trans key)
def pBlank (z:Scn):List (D Pl)→Option (Bool×D Pl×Scn)
 | []=>some (Nat.ble z.p z.s.length&&Nat.ble z.s.length big,.tup [],z.go (blankM z.s z.p))
 | _=>none
theorem pBlank_ok:∀z args c d z',pBlank z args=some (c,d,z')→c=true→SndS 17 z args d z':=by
 intro z args c d z' h hc
 unfold pBlank at h
 split at h
 ·simp only [Option.some.injEq,Prod.mk.injEq] at h
  obtain ⟨rfl,rfl,rfl⟩:=h
  simp only [Bool.and_eq_true,Nat.ble_eq] at hc
  exact blanks z hc.1 hc.2
 ·simp at h
end Go.Proofs.YtcgbgcconigdbaaGreatDoor
namespace Go.Proofs.YtcgbgcconigdbaaGreatDoor
open Go.Eng
set_option maxRecDepth 100000
def preB (s pre:Str):Bool:=bif decide ((s.length:Int) ≥ (pre.length:Int)) then (s.drop (Int.toNat 0)).take ((pre.length:Int).toNat - Int.toNat 0)==pre else false
def pS2 (f:Str→Str→D Pl):List (D Pl)→Option (Bool×D Pl)
 | [.str s,.str t]=>some (true,f s t)
 | _=>none
theorem pS2_ok {g:FuncId} {f:Str→Str→D Pl} (hf:∀s t,Snd g [.str s,.str t] (f s t)):∀ds b d,pS2 f ds=some (b,d)→b=true→Snd g ds d:=by
 intro ds b d h hb
 unfold pS2 at h
 split at h
 ·simp only [Option.some.injEq,Prod.mk.injEq] at h;obtain ⟨_,rfl⟩:=h;exact hf _ _
 ·simp at h
theorem e32p (s pre:Str):ev tell0 noTL 2 38 [.str s,.str pre] =
  ck_ ((true&&decide ((0:Int)≤(pre.length:Int))&&decide ((pre.length:Int)≤(s.length:Int)))||!(decide ((s.length:Int) ≥ (pre.length:Int))==true)) (some (.bool (preB s pre))):=by kernel_rfl
theorem pre_sound (s pre:Str):Snd 38 [.str s,.str pre] (.bool (preB s pre)):=by
 refine snd_of (tell0_ok _) (noTL_ok _ _) ((e32p s pre).trans (ck_t ?_ _))
 rw [decide_eq_true (show (0:Int)≤(pre.length:Int) by omega)]
 by_cases h:pre.length≤s.length
 ·rw [decide_eq_true (show (pre.length:Int)≤(s.length:Int) by omega)];rfl
 ·rw [decide_eq_false (show ¬ (s.length:Int) ≥ (pre.length:Int) by omega)];simp
def tPre (R:Eng.Told Pl):Eng.Told Pl:=tell 38 (pS2 fun s t=>.bool (preB s t)) R
theorem tPre_ok {R:Eng.Told Pl} (h:TOk R):TOk (tPre R):=tell_ok (pS2_ok pre_sound) h
theorem preB_two (s:Str) (p:Nat) (x y:UInt8) (hy:y.toNat≠0):preB (s.drop p) [x,y]=two s p (x.toNat:Int) (y.toNat:Int):=by
 have h0:byt s p=byt (s.drop p) 0:=(byt_drop s p 0).symm
 have h1:byt s (p+1)=byt (s.drop p) 1:=(byt_drop s p 1).symm
 unfold two
 rw [h0,h1]
 have hb:∀a b:UInt8,((a.toNat:Int)==(b.toNat:Int))=(a==b):=by
  intro a b
  by_cases h:a=b
  ·subst h;simp
  ·rw [beq_eq_false_iff_ne.2 h,beq_eq_false_iff_ne.2]
   intro hh
   exact h (UInt8.toNat_inj.1 (by omega))
 have hn:((0:Int)==(y.toNat:Int))=false:=beq_eq_false_iff_ne.2 (by omega)
 rcases s.drop p with _ | ⟨a,_ | ⟨b,r⟩⟩
 ·unfold preB
  rw [decide_eq_false (by show ¬ ((0:Int) ≥ 2);decide)]
  show false=((0:Int)==(x.toNat:Int)&&(0:Int)==(y.toNat:Int))
  rw [hn,Bool.and_false]
 ·unfold preB
  rw [decide_eq_false (by show ¬ ((1:Int) ≥ 2);decide)]
  show false=((a.toNat:Int)==(x.toNat:Int)&&(0:Int)==(y.toNat:Int))
  rw [hn,Bool.and_false]
 ·unfold preB
  rw [decide_eq_true (by show (((a::b::r).length:Nat):Int) ≥ 2;simp only [List.length_cons];omega)]
  show ([a,b]==[x,y])=((a.toNat:Int)==(x.toNat:Int)&&(b.toNat:Int)==(y.toNat:Int))
  rw [hb,hb]
  simp [BEq.beq,List.beq]
noncomputable def tSg:Eng.Told Pl:=tPre (tLk (tRun tell0))
theorem tSg_ok:TOk tSg:=tPre_ok (tLk_ok (tRun_ok (tell0_ok _)))
def tokS (t:TokR) (w:Str):TokR:=⟨4,w,t.n,t.parts,t.p⟩
def sgE (z:Scn) (t:TokR) (w:Str) (n:Int):Option (D Pl):=ck_ (okS z.s z.p&&stepOk z n) (some (.env (encS (z.go (z.p+n.toNat))) (.agg (cTok (tokS t w)))))
def sgK (z:Scn) (t:TokR) (r:Str) (last:Option (D Pl)):List Str→Option (D Pl)
 | []=>last
 | w::ws=>bif preB r w then sgE z t w 2 else sgK z t r last ws
def twosL:List Str:=[[61,61],[33,61],[60,61],[62,61],[38,38],[124,124],[61,62]]
def sgLast (z:Scn) (t:TokR) (r:Str):Option (D Pl):=ck_ ((true&&decide ((0:Int) < (r.length:Int)))||false)
 (bif decide (Lib.indexByte onesS ((byt r 0).toNat.toUInt8) < 0) then ck_ (okS z.s z.p&&true) (some (.env (encS (Scn.fail z 23 t.p)) (.agg (cTok (tokS t t.s)))))
  else ck_ ((true&&decide ((1:Int)≤(r.length:Int)))||false) (sgE z t (List.take (Int.toNat 1 - Int.toNat 0) (List.drop (Int.toNat 0) r)) 1))
def sgB (z:Scn) (t:TokR):Option (D Pl):=ck_ (slO z.p (z.s.length:Int) z.s.length) (sgK z t (slS z.s z.p (z.s.length:Int)) (sgLast z t (slS z.s z.p (z.s.length:Int))) twosL)
theorem e25n (s:Str) (p:Nat) (bad:Int) (bp:PosR) (t:TokR):evM tSg noTL noL 4 Tryz.f28 (decH (encS ⟨s,p,[],bad,bp⟩)) [.ptr 50000 0,.agg (cTok t)]=sgB ⟨s,p,[],bad,bp⟩ t:=by kernel_rfl
theorem e25c (s:Str) (p:Nat) (x:TokR) (l:List TokR) (bad:Int) (bp:PosR) (t:TokR):evM tSg noTL noL 4 Tryz.f28 (decH (encS ⟨s,p,x::l,bad,bp⟩)) [.ptr 50000 0,.agg (cTok t)]=sgB ⟨s,p,x::l,bad,bp⟩ t:=by kernel_rfl
theorem ids25:(loopsAt 28).length=1∧firstId (loopAt 28 0)=4∧loopsOf (loopAt 28 0)=[]:=⟨by kernel_rfl,by kernel_rfl,by kernel_rfl⟩
theorem isOne_ix (c:UInt8):decide (Lib.indexByte onesS c < 0)=!(isOne (c.toNat:Int)):=by
 have:∀n:Fin 256,decide (Lib.indexByte onesS (UInt8.ofNat n.val) < 0)=!(isOne ((n.val:Nat):Int)):=by decide +kernel
 have h:=this ⟨c.toNat,c.toNat_lt⟩
 rw [UInt8.ofNat_toNat] at h
 exact h
theorem sgE_eq {z:Scn} {t:TokR} {w:Str} {n:Nat} (h:z.p+n≤z.s.length) (hl:z.s.length≤big):sgE z t w (n:Int)=some (.env (encS (z.go (z.p+n))) (.agg (cTok (tokS t w)))):=by
 unfold sgE
 rw [ck_t (by
  rw [okS_t,Bool.true_and]
  unfold stepOk
  rw [decide_eq_true (by omega),ble_t (show z.p+(n:Int).toNat≤z.s.length by omega),ble_t hl];rfl)]
 rw [show (n:Int).toNat=n by omega]
theorem sgB_eq {z:Scn} {t:TokR} (ht:t.s=[]) (hp:z.p < z.s.length) (hl:z.s.length≤big) :
  sgB z t=some (.env (encS (z.past (signO z.s z.p).e t.p (signO z.s z.p).q)) (.agg (cTok (tokS t (signO z.s z.p).t.s)))):=by
 have hbig:big=140737488355328:=rfl
 unfold sgB
 have e:slS z.s z.p (z.s.length:Int)=z.s.drop z.p:=by
  unfold slS
  rw [show ((z.s.length:Int)).toNat=z.s.length from rfl,show (z.p:Int).toNat=z.p from rfl]
  exact List.take_of_length_le (by simp)
 rw [ck_t (by unfold slO;rw [decide_eq_true (show (0:Int)≤(z.p:Int) by omega),decide_eq_true (show (z.p:Int)≤(z.s.length:Int) by omega),decide_eq_true (show (z.s.length:Int)≤(z.s.length:Int) by omega)];rfl),e]
 have p1:=preB_two z.s z.p 61 61 (by decide)
 have p2:=preB_two z.s z.p 33 61 (by decide)
 have p3:=preB_two z.s z.p 60 61 (by decide)
 have p4:=preB_two z.s z.p 62 61 (by decide)
 have p5:=preB_two z.s z.p 38 38 (by decide)
 have p6:=preB_two z.s z.p 124 124 (by decide)
 have p7:=preB_two z.s z.p 61 62 (by decide)
 simp only [twosL,sgK]
 rw [p1,p2,p3,p4,p5,p6,p7]
 have hstep:∀w:Str,z.p+1 < z.s.length→sgE z t w 2=some (.env (encS (z.go (z.p+2))) (.agg (cTok (tokS t w)))):=fun w h=>sgE_eq (n:=2) (by omega) hl
 have hone:∀w:Str,sgE z t w 1=some (.env (encS (z.go (z.p+1))) (.agg (cTok (tokS t w)))):=fun w=>sgE_eq (n:=1) (by omega) hl
 unfold signO twoS
 cases h1:two z.s z.p ((61:UInt8).toNat:Int) ((61:UInt8).toNat:Int) with
 | true=>rw [show two z.s z.p 61 61=true from h1,cond_true,hstep _ (two_in h1 (by decide))];rfl
 | false =>
 rw [show two z.s z.p 61 61=false from h1]
 simp only [cond_false]
 cases h2:two z.s z.p ((33:UInt8).toNat:Int) ((61:UInt8).toNat:Int) with
 | true=>rw [show two z.s z.p 33 61=true from h2,cond_true,hstep _ (two_in h2 (by decide))];rfl
 | false =>
 rw [show two z.s z.p 33 61=false from h2]
 simp only [cond_false]
 cases h3:two z.s z.p ((60:UInt8).toNat:Int) ((61:UInt8).toNat:Int) with
 | true=>rw [show two z.s z.p 60 61=true from h3,cond_true,hstep _ (two_in h3 (by decide))];rfl
 | false =>
 rw [show two z.s z.p 60 61=false from h3]
 simp only [cond_false]
 cases h4:two z.s z.p ((62:UInt8).toNat:Int) ((61:UInt8).toNat:Int) with
 | true=>rw [show two z.s z.p 62 61=true from h4,cond_true,hstep _ (two_in h4 (by decide))];rfl
 | false =>
 rw [show two z.s z.p 62 61=false from h4]
 simp only [cond_false]
 cases h5:two z.s z.p ((38:UInt8).toNat:Int) ((38:UInt8).toNat:Int) with
 | true=>rw [show two z.s z.p 38 38=true from h5,cond_true,hstep _ (two_in h5 (by decide))];rfl
 | false =>
 rw [show two z.s z.p 38 38=false from h5]
 simp only [cond_false]
 cases h6:two z.s z.p ((124:UInt8).toNat:Int) ((124:UInt8).toNat:Int) with
 | true=>rw [show two z.s z.p 124 124=true from h6,cond_true,hstep _ (two_in h6 (by decide))];rfl
 | false =>
 rw [show two z.s z.p 124 124=false from h6]
 simp only [cond_false]
 cases h7:two z.s z.p ((61:UInt8).toNat:Int) ((62:UInt8).toNat:Int) with
 | true=>rw [show two z.s z.p 61 62=true from h7,cond_true,hstep _ (two_in h7 (by decide))];rfl
 | false =>
 rw [show two z.s z.p 61 62=false from h7]
 simp only [cond_false]
 unfold sgLast
 have hlen:0 < (z.s.drop z.p).length:=by rw [List.length_drop];omega
 have hb:byt (z.s.drop z.p) 0=(((z.s.getD z.p 0).toNat:Nat):Int):=by rw [byt_drop];rfl
 rw [ck_t (by rw [decide_eq_true (show (0:Int) < ((z.s.drop z.p).length:Int) by omega)];rfl),hb]
 have hc:((((z.s.getD z.p 0).toNat:Nat):Int).toNat.toUInt8)=z.s.getD z.p 0:=by simp
 rw [hc,isOne_ix]
 have hb2:byt z.s z.p=(((z.s.getD z.p 0).toNat:Nat):Int):=rfl
 rw [←hb2]
 cases h8:isOne (byt z.s z.p) with
 | true =>
  simp only [Bool.not_true,cond_false,cond_true]
  rw [ck_t (by rw [decide_eq_true (show (1:Int)≤((z.s.drop z.p).length:Int) by omega)];rfl),hone]
  rfl
 | false =>
  simp only [Bool.not_false,cond_true,cond_false]
  rw [ck_t (by rw [okS_t];rfl),ht]
  rfl
theorem signs (z:Scn) (t:TokR) (ht:t.s=[]) (hp:z.p < z.s.length) (hl:z.s.length≤big) :
  SndS 28 z [.agg (cTok t)] (.agg (cTok (tokS t (signO z.s z.p).t.s))) (z.past (signO z.s z.p).e t.p (signO z.s z.p).q):=by
 have hL:=loops_of (f:=28) (fn:=Tryz.f28) (by kernel_rfl) (loops_1 ids25.1 (L:=noL) (noL_ok _ _))
 have key:=sgB_eq ht hp hl
 obtain ⟨s,p,toks,bad,bp⟩:=z
 cases toks with
 | nil=>exact snd_m (n:=4) tSg_ok (noTL_ok _ _) (fn:=Tryz.f28) (by kernel_rfl) hL ((e25n s p bad bp t).trans key)
 | cons x l=>exact snd_m (n:=4) tSg_ok (noTL_ok _ _) (fn:=Tryz.f28) (by kernel_rfl) hL ((e25c s p x l bad bp t).trans key)
end Go.Proofs.YtcgbgcconigdbaaGreatDoor
