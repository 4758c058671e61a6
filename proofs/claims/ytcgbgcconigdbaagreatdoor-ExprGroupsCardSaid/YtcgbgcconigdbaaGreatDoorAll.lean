/-
 ALL TOKENS OF A TEXT: the loop's rounds.
-/
import Derived.Test.YtcgbgcconigdbaaGreatDoorBody
namespace Go.Proofs.YtcgbgcconigdbaaGreatDoor
open Go.Eng
set_option maxRecDepth 100000
theorem bodyM_len (s:Str):∀(n p:Nat) (out:List PartR) (b:Str),s.length - p=n→(bodyM s p out b).ok=true→(bodyM s p out b).l.length+p≤out.length+(bodyM s p out b).q:=by
 intro n
 induction n using Nat.strongRecOn with
 | _ n ih =>
  intro p out b hn ho
  rw [bodyM_eq] at ho ⊢
  have hfl:=fl_len out b
  rcases Nat.lt_or_ge p s.length with h | h
  ·rw [blt_t h] at ho ⊢
   simp only [Bool.not_true,cond_false] at ho ⊢
   cases h34:byt s p==34 with
   | true=>simp only [cond_true];omega
   | false =>
   cases h10:byt s p==10 with
   | true=>rw [h34,h10] at ho;cases ho
   | false =>
   rw [h34,h10] at ho
   simp only [cond_false] at ho ⊢
   cases h92:byt s p==92 with
   | true =>
    rw [h92] at ho
    simp only [cond_true] at ho ⊢
    cases h2:Nat.blt (p+1) s.length with
    | false=>rw [h2] at ho;cases ho
    | true =>
     rw [h2] at ho
     simp only [Bool.not_true,cond_false] at ho ⊢
     cases he:escB (byt s (p+1)) with
     | true =>
      rw [he] at ho
      have:=ih (s.length - (p+2)) (by omega) (p+2) _ _ rfl ho
      simp only [cond_true];omega
     | false=>rw [he] at ho;cases ho
   | false =>
   rw [h92] at ho
   simp only [cond_false] at ho ⊢
   cases h36:two s p 36 123 with
   | true =>
    rw [h36] at ho
    simp only [cond_true] at ho ⊢
    cases hpc:pcOk s (p+2) with
    | true =>
     rw [hpc] at ho
     have:=ih (s.length - (p+2+pcn s (p+2)+1)) (by omega) _ _ _ rfl ho
     rw [List.length_append,List.length_singleton] at this
     simp only [cond_true];omega
    | false=>rw [hpc] at ho;cases ho
   | false =>
    rw [h36] at ho
    have:=ih (s.length - (p+1)) (by omega) _ _ _ rfl ho
    simp only [cond_false];omega
  ·rw [blt_f (by omega)] at ho;cases ho
def tkZ:List (D Pl):=[dI 0,.str [],dI 0,.nilS,dI 0,dI 0,dI 0]
def sT (z:Scn) (k:TokR) (P:Pl) (l:List PartR) (sz i:Int):St Pl:=mkS 46 [(0,.ptr 50000 0),(3,.ptr 3 0),(4,.ptr 4 0),(5,.pl P .any),(7,dI sz),(24,.pl (pParts l) .any),(25,dI l.length),(26,dI i)] (encN 60000010 z++[(4,.box false tkZ),(3,.box false (cTok k))])
noncomputable abbrev evT (S:St Pl):=evX tell0 noTL noL 1 (loopAt 27 0) [0,3,4,5,7,24,25,26] [9] [] [50000,60000010,4,3] S
def tB8 (z:Scn) (k:TokR) (P:Pl) (l:List PartR) (sz:Int) (i:Nat):Option (Ex×St Pl) :=
 lt_ i l.length (ix_ i l.length (some (.normal,sT z k P l (w64 (sz+((l.getD i default).s.length:Int))) (w64 ((i:Int)+1))))) (some (.exit 0,sT z k P l sz i))
theorem b24n (s:Str) (p:Nat) (bad:Int) (bp:PosR) (k:TokR) (P:Pl) (l:List PartR) (sz:Int) (i:Nat):evT (sT ⟨s,p,[],bad,bp⟩ k P l sz i)=tB8 ⟨s,p,[],bad,bp⟩ k P l sz i:=by kernel_rfl
theorem b24c (s:Str) (p:Nat) (x:TokR) (r:List TokR) (bad:Int) (bp:PosR) (k:TokR) (P:Pl) (l:List PartR) (sz:Int) (i:Nat):evT (sT ⟨s,p,x::r,bad,bp⟩ k P l sz i)=tB8 ⟨s,p,x::r,bad,bp⟩ k P l sz i:=by kernel_rfl
theorem ids24:(loopsAt 27).length=1∧firstId (loopAt 27 0)=8∧loopsOf (loopAt 27 0)=[]:=⟨by kernel_rfl,by kernel_rfl,by kernel_rfl⟩
theorem goT (z:Scn) (k:TokR) (P:Pl) (l:List PartR) (sz:Int) (i:Nat) {e:Ex} {S:St Pl} (h:tB8 z k P l sz i=some (e,S)):Goes X0 (loopAt 27 0) (sT z k P l sz i) e S:=by
 obtain ⟨s,p,toks,bad,bp⟩:=z
 cases toks with
 | nil=>exact goes_ofX (tell0_ok _) (noTL_ok _ _) (noLoops ids24.2.2) ((b24n s p bad bp k P l sz i).trans h)
 | cons x r=>exact goes_ofX (tell0_ok _) (noTL_ok _ _) (noLoops ids24.2.2) ((b24c s p x r bad bp k P l sz i).trans h)
theorem psum_take (l:List PartR) (i:Nat) (h:i < l.length):psum (l.take (i+1))=psum (l.take i)+(l.getD i default).s.length:=by
 rw [List.take_add_one,psum_app,List.getElem?_eq_getElem h,List.getD_eq_getElem?_getD,List.getElem?_eq_getElem h]
 rfl
theorem psum_le:∀(l:List PartR) (i:Nat),psum (l.take i)≤psum l
 | [],i=>by simp
 | x::l,0=>by simp [psum]
 | x::l,i+1=>by
  have:=psum_le l i
  simp only [List.take_succ_cons,psum];omega
theorem loopT (z:Scn) (k:TokR) (P:Pl) (l:List PartR) (hl:l.length≤big) (hs:psum l≤big):Goes X0 (.loop (loopAt 27 0)) (sT z k P l 0 0) (pickR (.leaf (.exit 0) (sT z k P l (psum l) l.length))).1 (pickR (.leaf (.exit 0) (sT z k P l (psum l) l.length))).2:=by
 have hbig:big=140737488355328:=rfl
 refine loop_all (Sf:=fun i=>sT z k P l (psum (l.take i)) i) (n:=l.length) (by simp) (fun i hi=>goT z k P l _ i ?_) ?_
 ·unfold tB8
  have h1:=psum_le l (i+1)
  rw [psum_take l i hi] at h1
  rw [lt_t hi,ix_t hi,psum_take l i hi,show w64 ((i:Int)+1)=((i+1:Nat):Int) from wrap_nat (by omega)]
  rw [show w64 (((psum (l.take i):Nat):Int)+((l.getD i default).s.length:Int))=((psum (l.take i)+(l.getD i default).s.length:Nat):Int) by
   rw [show ((psum (l.take i):Nat):Int)+((l.getD i default).s.length:Int)=((psum (l.take i)+(l.getD i default).s.length:Nat):Int) by omega]
   exact wrap_in _ (by omega)]
 ·have:Goes X0 (loopAt 27 0) (sT z k P l (psum l) l.length) (.exit 0) (sT z k P l (psum l) l.length):=goT z k P l _ _ (by unfold tB8;rw [lt_f (by omega)])
  simp only [List.take_length]
  exact this
def decN:Obs Pl→Option (Bool×Scn)
 | [(50000,.box false (.str s::.int .i64 (.ofNat p)::.int .i64 l::.int .i64 t::[.int .u64 (.ofNat 0),.int .u64 a,.int .u64 b,.int .u64 c,.int .u64 d,.int .u64 (.ofNat 0),.nilS,.int .i64 bad,.int .i64 ba,.int .i64 bl,.int .i64 bc,.str []]))] =>
  some ((l==ln s p&&t==sn s p)&&((a==cF&&b==cN)&&(c==cF&&d==cN)),⟨s,p,[],bad,⟨ba,bl,bc⟩⟩)
 | [(50000,.box false (.str s::.int .i64 (.ofNat p)::.int .i64 l::.int .i64 t::[.int .u64 (.ofNat 0),.int .u64 a,.int .u64 b,.int .u64 c,.int .u64 d,.int .u64 (.ofNat 0),.arr 60000010,.int .i64 bad,.int .i64 ba,.int .i64 bl,.int .i64 bc,.str []])),(60000010,.arr false ⟨.toks,x::r⟩)] =>
  some ((l==ln s p&&t==sn s p)&&((a==cF&&b==cN)&&(c==cF&&d==cN)),⟨s,p,x::r,bad,⟨ba,bl,bc⟩⟩)
 | _=>none
theorem decN_eq {H:Obs Pl} {b:Bool} {z:Scn} (h:decN H=some (b,z)) (hb:b=true):H=encN 60000010 z:=by
 unfold decN at h
 split at h
 ·simp only [Option.some.injEq,Prod.mk.injEq] at h
  obtain ⟨rfl,rfl⟩:=h
  simp only [Bool.and_eq_true,beq_iff_eq] at hb
  obtain ⟨⟨rfl,rfl⟩,⟨rfl,rfl⟩,rfl,rfl⟩:=hb
  rfl
 ·simp only [Option.some.injEq,Prod.mk.injEq] at h
  obtain ⟨rfl,rfl⟩:=h
  simp only [Bool.and_eq_true,beq_iff_eq] at hb
  obtain ⟨⟨rfl,rfl⟩,⟨rfl,rfl⟩,rfl,rfl⟩:=hb
  rfl
 ·simp at h
def isZ:List (D Pl)→Bool
 | [.int .i64 a,.str [],.int .i64 b,.nilS,.int .i64 c,.int .i64 d,.int .i64 e]=>(a==0&&b==0)&&(c==0&&(d==0&&e==0))
 | _=>false
theorem isZ_eq {l:List (D Pl)} (h:isZ l=true):l=tkZ:=by
 unfold isZ at h
 split at h
 ·simp only [Bool.and_eq_true,beq_iff_eq] at h
  obtain ⟨⟨rfl,rfl⟩,rfl,rfl,rfl⟩:=h
  rfl
 ·simp at h
def decK:List (D Pl)→Option TokR
 | [.int .i64 ki,.str ks,.int .i64 kn,.pl ⟨.parts,kp⟩ .any,.int .i64 ka,.int .i64 kl,.int .i64 kc]=>some ⟨ki,ks,kn,kp,⟨ka,kl,kc⟩⟩
 | _=>none
theorem decK_eq {l:List (D Pl)} {k:TokR} (h:decK l=some k):l=cTok k:=by
 unfold decK at h
 split at h
 ·simp only [Option.some.injEq] at h
  subst h;rfl
 ·simp at h
def decP (H:Obs Pl) (c4 c3:List (D Pl)):Option (Bool×Scn×TokR):=match decN H with
 | some (c,z)=>match decK c3 with
  | some k=>some (c&&isZ c4,z,k)
  | none=>none
 | none=>none
theorem decP_eq {H:Obs Pl} {c4 c3:List (D Pl)} {b:Bool} {z:Scn} {k:TokR} (h:decP H c4 c3=some (b,z,k)) (hb:b=true):H=encN 60000010 z∧c4=tkZ∧c3=cTok k:=by
 unfold decP at h
 split at h
 ·rename_i hd
  split at h
  ·rename_i hk
   simp only [Option.some.injEq,Prod.mk.injEq] at h
   obtain ⟨rfl,rfl,rfl⟩:=h
   rw [Bool.and_eq_true] at hb
   exact ⟨decN_eq hd hb.1,isZ_eq hb.2,decK_eq hk⟩
  ·simp at h
 ·simp at h
def decT:Obs Pl→Option (Bool×Scn×TokR)
 | [h,(4,.box false c4),(3,.box false c3)]=>decP [h] c4 c3
 | [h,h2,(4,.box false c4),(3,.box false c3)]=>decP [h,h2] c4 c3
 | _=>none
theorem decT_eq {H:Obs Pl} {b:Bool} {z:Scn} {k:TokR} (h:decT H=some (b,z,k)) (hb:b=true):H=encN 60000010 z++[(4,.box false tkZ),(3,.box false (cTok k))]:=by
 unfold decT at h
 split at h
 ·obtain ⟨h1,rfl,rfl⟩:=decP_eq h hb
  rw [←h1];rfl
 ·obtain ⟨h1,rfl,rfl⟩:=decP_eq h hb
  rw [←h1];rfl
 ·simp at h
def LS8 (S:St Pl):Option (Bool×LR Pl):=match seenS 46 [0,3,4,5,7,24,25,26] S with
 | some ([.ptr 50000 0,.ptr 3 0,.ptr 4 0,.pl P .any,.int .i64 (.ofNat 0),.pl ⟨.parts,l⟩ .any,.int .i64 n,.int .i64 (.ofNat 0)],H)=>match decT H with
  | some (c,z,k)=>some (c&&(n==(l.length:Int)&&(Nat.ble l.length big&&Nat.ble (psum l) big)),.leaf (.exit 0) (sT z k P l (psum l) l.length))
  | none=>none
 | _=>none
theorem LS8_ok:SOk X0 (loopAt 27 0) LS8:=by
 intro S b r h hb
 unfold LS8 at h
 split at h
 ·rename_i P l n H hs
  split at h
  ·rename_i c z k hd
   simp only [Option.some.injEq,Prod.mk.injEq] at h
   obtain ⟨rfl,rfl⟩:=h
   simp only [Bool.and_eq_true,Nat.ble_eq,beq_iff_eq] at hb
   obtain ⟨rfl,rfl,h1,h2⟩:=hb
   refine Goes.pre (keepOf [0,3,4,5,7,24,25,26]) ?_
   rw [seenS_mask hs,decT_eq hd rfl]
   exact loopT z k P l h1 h2
  ·simp at h
 ·simp at h
noncomputable def tTx:Eng.Told Pl:=tellM 36 (pM pBody) (tellM 22 (pM pStep) (tellM 34 (pM pFail) tell0))
theorem tTx_ok:TOk tTx:=tellM_ok (pM_ok pBody_ok) (tellM_ok (pM_ok pStep_ok) (tellM_ok (pM_ok pFail_ok) (tell0_ok _)))
def tokP (t:TokR) (l:List PartR):TokR:=⟨3,t.s,t.n,l,t.p⟩
def txE (z:Scn) (t:TokR):Option (D Pl):=some (.env (encS z) (.agg (cTok t)))
def txB (z:Scn) (t:TokR) (o:BodyO):Option (D Pl) :=
 bif !o.ok then ck_ (okS z.s z.p&&true) (txE (Scn.fail z 4 t.p) t)
 else ck_ ((okS z.s z.p&&true)&&((o.l.length:Int)==(o.l.length:Int)&&(Nat.ble o.l.length big&&Nat.ble (psum o.l) big)))
  (bif decide ((psum o.l:Int) > 1024) then ck_ (okS z.s z.p&&true) (txE (Scn.fail z 3 t.p) (tokP t o.l)) else txE z (tokP t o.l))
def txA (z:Scn) (t:TokR):Option (D Pl):=ck_ (okS z.s z.p&&(Nat.ble z.p z.s.length&&Nat.ble z.s.length 100000)) (txB (z.go (bodyM z.s z.p [] []).q) t (bodyM z.s z.p [] []))
def txF (z:Scn) (t:TokR):Option (D Pl):=ck_ (okS z.s z.p&&stepOk z 1) (txA (z.go (z.p+Int.toNat 1)) t)
theorem e24n (s:Str) (p:Nat) (bad:Int) (bp:PosR) (t:TokR):evM tTx noTL (atL 8 LS8 noL) 2 Tryz.f27 (decH (encS ⟨s,p,[],bad,bp⟩)) [.ptr 50000 0,.agg (cTok t)]=txF ⟨s,p,[],bad,bp⟩ t:=by kernel_rfl
theorem e24c (s:Str) (p:Nat) (x:TokR) (l:List TokR) (bad:Int) (bp:PosR) (t:TokR):evM tTx noTL (atL 8 LS8 noL) 2 Tryz.f27 (decH (encS ⟨s,p,x::l,bad,bp⟩)) [.ptr 50000 0,.agg (cTok t)]=txF ⟨s,p,x::l,bad,bp⟩ t:=by kernel_rfl
theorem textO_e (s:Str) (p:Nat):textO s p=bif (bodyM s (p+1) [] []).ok
 then ⟨⟨3,[],0,(bodyM s (p+1) [] []).l,posR s p⟩,(bodyM s (p+1) [] []).q,bif decide ((psum (bodyM s (p+1) [] []).l:Int) > 1024) then 3 else 0⟩
 else ⟨tok0 s p,(bodyM s (p+1) [] []).q,4⟩:=rfl
def txT (s:Str) (p:Nat) (t:TokR):TokR:=⟨bif (bodyM s (p+1) [] []).ok then 3 else t.kind,t.s,t.n,bif (bodyM s (p+1) [] []).ok then (bodyM s (p+1) [] []).l else t.parts,t.p⟩
theorem txF_eq {z:Scn} {t:TokR} (hp:z.p < z.s.length) (hl:z.s.length≤100000):txF z t=some (.env (encS (z.past (textO z.s z.p).e t.p (textO z.s z.p).q)) (.agg (cTok (txT z.s z.p t)))):=by
 have hbig:big=140737488355328:=rfl
 unfold txF
 rw [ck_t (show (okS z.s z.p&&stepOk z 1)=true from stepOk_t (n:=1) (by omega) (by omega))]
 show txA (z.go (z.p+1)) t=_
 unfold txA
 rw [ck_t (by rw [okS_t,ble_t (show (z.go (z.p+1)).p≤(z.go (z.p+1)).s.length by show z.p+1≤z.s.length;omega),ble_t (show (z.go (z.p+1)).s.length≤100000 from hl)];rfl)]
 show txB (z.go (bodyM z.s (z.p+1) [] []).q) t (bodyM z.s (z.p+1) [] [])=_
 have hin:=bodyM_in z.s _ (z.p+1) [] [] rfl (by omega)
 have hlen:=bodyM_len z.s _ (z.p+1) [] [] rfl
 rw [textO_e]
 unfold txB txT Scn.past
 generalize bodyM z.s (z.p+1) [] []=o at *
 obtain ⟨ok,l,q⟩:=o
 cases ok with
 | false =>
  simp only [Bool.not_false,cond_true,cond_false]
  rw [ck_t (by rw [okS_t];rfl)]
  rfl
 | true =>
  have h2:=(hin.2.2 rfl).1
  have h3:=hlen rfl
  simp only [List.length_nil,psum] at h2 h3
  simp only at hin
  simp only [Bool.not_true,cond_true,cond_false]
  rw [ck_t (by rw [okS_t,beq_self_eq_true,ble_t (show l.length≤big by omega),ble_t (show psum l≤big by omega)];rfl)]
  cases hd:decide (((psum l:Nat):Int) > 1024) with
  | true =>
   simp only [cond_true]
   rw [ck_t (by rw [okS_t];rfl)]
   rfl
  | false=>rfl
theorem texts (z:Scn) (t:TokR) (hp:z.p < z.s.length) (hl:z.s.length≤100000) :
  SndS 27 z [.agg (cTok t)] (.agg (cTok (txT z.s z.p t))) (z.past (textO z.s z.p).e t.p (textO z.s z.p).q):=by
 have hL:=loops_of (f:=27) (fn:=Tryz.f27) (by kernel_rfl) (loops_1 ids24.1 (L:=atL 8 LS8 noL) (atL_ok (fun _=>LS8_ok) fun h=>absurd ids24.2.1 h))
 have key:=txF_eq (t:=t) hp hl
 obtain ⟨s,p,toks,bad,bp⟩:=z
 cases toks with
 | nil=>exact snd_m (n:=2) tTx_ok (noTL_ok _ _) (fn:=Tryz.f27) (by kernel_rfl) hL ((e24n s p bad bp t).trans key)
 | cons x l=>exact snd_m (n:=2) tTx_ok (noTL_ok _ _) (fn:=Tryz.f27) (by kernel_rfl) hL ((e24c s p x l bad bp t).trans key)
end Go.Proofs.YtcgbgcconigdbaaGreatDoor
namespace Go.Proofs.YtcgbgcconigdbaaGreatDoor
open Go.Eng
set_option maxRecDepth 100000
theorem sndM_pre {f:FuncId} {H H':Obs Pl} {ds ds':List (D Pl)} {d:D Pl} (hle:RDles X0.C ds ds') (h:SndM f H ds' d H'):SndM f H ds d H':=by
 intro g vs ht hS hs hr
 obtain ⟨hl,hget⟩:=hle.spec
 refine h g vs ht hS (hs.trans hl) fun i v c hv hc=>?_
 obtain ⟨e,he,hle⟩:=hget i c hc
 exact hle _ _ (hr i v e hv he)
structure TkR where
 c:Bool
 t:TokR
 e:Int
 q:Nat
def pTk (f:Scn→TokR→TkR) (z:Scn):List (D Pl)→Option (Bool×D Pl×Scn)
 | [.agg [.int .i64 k,.str s,.int .i64 n,x,.int .i64 a,.int .i64 b,.int .i64 c]]=>match asL .parts x with
  | some l=>some ((f z ⟨k,s,n,l,⟨a,b,c⟩⟩).c,.agg (cTok (f z ⟨k,s,n,l,⟨a,b,c⟩⟩).t),z.past (f z ⟨k,s,n,l,⟨a,b,c⟩⟩).e ⟨a,b,c⟩ (f z ⟨k,s,n,l,⟨a,b,c⟩⟩).q)
  | none=>none
 | _=>none
theorem pTk_ok {g:FuncId} {f:Scn→TokR→TkR} (hf:∀z t,(f z t).c=true→SndS g z [.agg (cTok t)] (.agg (cTok (f z t).t)) (z.past (f z t).e t.p (f z t).q)) :
  ∀z args c d z',pTk f z args=some (c,d,z')→c=true→SndS g z args d z':=by
 intro z args c d z' h hc
 unfold pTk at h
 split at h
 ·split at h
  ·rename_i hx
   simp only [Option.some.injEq,Prod.mk.injEq] at h
   obtain ⟨rfl,rfl,rfl⟩:=h
   refine sndM_pre ?_ (hf z _ hc)
   exact .cons (RDle.refl _) (.cons (RDle.agg (.cons (RDle.refl _) (.cons (RDle.refl _) (.cons (RDle.refl _) (.cons (RDle.of (asL_le (fun _=>rfl) hx)) (RDles.refl _)))))) .nil)
  ·simp at h
 ·simp at h
def fN (z:Scn) (t:TokR):TkR:=⟨Nat.ble z.p z.s.length&&Nat.ble z.s.length big,tokN t (sl z.s z.p (runM z.s z.p)),(nameO z.s z.p).e,(nameO z.s z.p).q⟩
def fI (z:Scn) (t:TokR):TkR:=⟨Nat.ble z.p z.s.length&&Nat.ble z.s.length big,tokI t (numO z.s z.p).t.n,(numO z.s z.p).e,(numO z.s z.p).q⟩
def fT (z:Scn) (t:TokR):TkR:=⟨Nat.blt z.p z.s.length&&Nat.ble z.s.length 100000,txT z.s z.p t,(textO z.s z.p).e,(textO z.s z.p).q⟩
def fS (z:Scn) (t:TokR):TkR:=⟨t.s.isEmpty&&(Nat.blt z.p z.s.length&&Nat.ble z.s.length big),tokS t (signO z.s z.p).t.s,(signO z.s z.p).e,(signO z.s z.p).q⟩
theorem named_past (z:Scn) (t:TokR):z.named t=z.past (nameO z.s z.p).e t.p (nameO z.s z.p).q:=by
 unfold Scn.named Scn.past nameO
 cases decide ((runM z.s z.p:Int) > 24)<;>rfl
theorem fN_ok (z:Scn) (t:TokR) (h:(fN z t).c=true):SndS 25 z [.agg (cTok t)] (.agg (cTok (fN z t).t)) (z.past (fN z t).e t.p (fN z t).q):=by
 simp only [fN,Bool.and_eq_true,Nat.ble_eq] at h
 have:=names z t h.1 h.2
 rwa [named_past] at this
theorem fI_ok (z:Scn) (t:TokR) (h:(fI z t).c=true):SndS 26 z [.agg (cTok t)] (.agg (cTok (fI z t).t)) (z.past (fI z t).e t.p (fI z t).q):=by
 simp only [fI,Bool.and_eq_true,Nat.ble_eq] at h
 exact numbers z t h.1 h.2
theorem fT_ok (z:Scn) (t:TokR) (h:(fT z t).c=true):SndS 27 z [.agg (cTok t)] (.agg (cTok (fT z t).t)) (z.past (fT z t).e t.p (fT z t).q):=by
 simp only [fT,Bool.and_eq_true,Nat.ble_eq,Nat.blt_eq] at h
 exact texts z t h.1 h.2
theorem fS_ok (z:Scn) (t:TokR) (h:(fS z t).c=true):SndS 28 z [.agg (cTok t)] (.agg (cTok (fS z t).t)) (z.past (fS z t).e t.p (fS z t).q):=by
 simp only [fS,Bool.and_eq_true,Nat.ble_eq,Nat.blt_eq,List.isEmpty_iff] at h
 exact signs z t h.1 h.2.1 h.2.2
noncomputable def tTk:Eng.Told Pl:=tellM 25 (pM (pTk fN)) (tellM 26 (pM (pTk fI)) (tellM 27 (pM (pTk fT)) (tellM 28 (pM (pTk fS)) (tHas tell0))))
theorem tTk_ok:TOk tTk:=tellM_ok (pM_ok (pTk_ok fN_ok)) (tellM_ok (pM_ok (pTk_ok fI_ok)) (tellM_ok (pM_ok (pTk_ok fT_ok)) (tellM_ok (pM_ok (pTk_ok fS_ok)) (tHas_ok (tell0_ok _)))))
def apT {β:Type} (toks:List TokR) (k:Option β):Option β:=match toks with
 | []=>k
 | x::l=>ck_ (Nat.ble (((x::l).length+1) * 80) big) k
theorem apT_t {β:Type} {toks:List TokR} (h:(toks.length+1) * 80≤big) (k:Option β):apT toks k=k:=by
 cases toks with
 | nil=>rfl
 | cons x b=>exact ck_t (ble_t h) k
def Scn.app (z:Scn) (t:TokR):Scn:={ z with toks:=z.toks++[t] }
def tkA (z:Scn) (t:TokR):Option (D Pl):=apT z.toks (some (.env (encS (z.app t)) (.tup [])))
def tkW (z:Scn):TokR:=⟨0,[],0,[],posW z⟩
def tkC (z:Scn) (r:TkR):Option (D Pl):=ck_ (okS z.s z.p&&r.c) (tkA (z.past r.e (posW z) r.q) r.t)
def tkB (z:Scn):Option (D Pl):=bif (z.p:Int)==(z.s.length:Int) then tkA z (tkW z) else ix_ z.p z.s.length (ck_ (byB (byt z.s z.p)) (bif letB (byt z.s z.p) then tkC z (fN z (tkW z)) else
 ck_ (byB (byt z.s z.p)) (bif digB (byt z.s z.p) then tkC z (fI z (tkW z)) else bif byt z.s z.p==34 then tkC z (fT z (tkW z)) else tkC z (fS z (tkW z)))))
theorem e16n (s:Str) (p:Nat) (bad:Int) (bp:PosR):evM tTk noTL noL 3 Tryz.f18 (decH (encS ⟨s,p,[],bad,bp⟩)) [.ptr 50000 0]=tkB ⟨s,p,[],bad,bp⟩:=by kernel_rfl
theorem e16c (s:Str) (p:Nat) (x:TokR) (l:List TokR) (bad:Int) (bp:PosR):evM tTk noTL noL 3 Tryz.f18 (decH (encS ⟨s,p,x::l,bad,bp⟩)) [.ptr 50000 0]=tkB ⟨s,p,x::l,bad,bp⟩:=by kernel_rfl
theorem ids16:(loopsAt 18).length=0:=by kernel_rfl
def Scn.tokd (z:Scn):Scn:=(z.past (tokO z.s z.p).e (posR z.s z.p) (tokO z.s z.p).q).app (tokO z.s z.p).t
theorem byB_byt (s:Str) (p:Nat):byB (byt s p)=true:=byB_bytI s p
theorem signO_t (s:Str) (p:Nat):(signO s p).t=⟨4,(signO s p).t.s,0,[],posR s p⟩:=by
 unfold signO
 cases twoS s p with
 | nil=>cases isOne (byt s p)<;>rfl
 | cons x l=>rfl
theorem tkB_eq {z:Scn} (hp:z.p≤z.s.length) (hl:z.s.length≤100000) (ht:z.toks.length≤100000):tkB z=some (.env (encS z.tokd) (.tup [])):=by
 have hbig:big=140737488355328:=rfl
 have hlb:z.s.length≤big:=by omega
 have hap:(z.toks.length+1) * 80≤big:=by omega
 have hpw:=posW_eq hp hlb
 have hC:∀r:TkR,r.c=true→tkC z r=some (.env (encS ((z.past r.e (posR z.s z.p) r.q).app r.t)) (.tup [])):=by
  intro r hr
  unfold tkC tkA
  rw [ck_t (by rw [okS_t,hr];rfl),hpw]
  exact apT_t (toks:=z.toks) hap _
 have hW:tkW z=tok0 z.s z.p:=by unfold tkW tok0;rw [hpw]
 unfold tkB Scn.tokd tokO
 by_cases h:z.p=z.s.length
 ·rw [show ((z.p:Int)==(z.s.length:Int))=true by rw [h];simp,show Nat.beq z.p z.s.length=true by rw [h];exact Nat.beq_refl _]
  simp only [cond_true]
  rw [hW]
  unfold tkA
  rw [apT_t hap]
  rfl
 ·have hlt:z.p < z.s.length:=by omega
  rw [show ((z.p:Int)==(z.s.length:Int))=false from beq_eq_false_iff_ne.2 (by omega),show Nat.beq z.p z.s.length=false by
   cases hb:Nat.beq z.p z.s.length with
   | false=>rfl
   | true=>exact absurd (Nat.eq_of_beq_eq_true hb) h]
  simp only [cond_false]
  rw [ix_t hlt,ck_t (byB_byt _ _),ck_t (byB_byt _ _),hW]
  cases letB (byt z.s z.p) with
  | true =>
   simp only [cond_true]
   rw [hC _ (by unfold fN;rw [ble_t hp,ble_t hlb];rfl)]
   rfl
  | false =>
  cases digB (byt z.s z.p) with
  | true =>
   simp only [cond_true,cond_false]
   rw [hC _ (by unfold fI;rw [ble_t hp,ble_t hlb];rfl)]
   rfl
  | false =>
  cases byt z.s z.p==34 with
  | true =>
   simp only [cond_true,cond_false]
   rw [hC _ (by unfold fT;rw [blt_t hlt,ble_t hl];rfl)]
   have:(fT z (tok0 z.s z.p)).t=(textO z.s z.p).t:=by
    unfold fT txT
    rw [textO_e]
    cases (bodyM z.s (z.p+1) [] []).ok<;>rfl
   rw [this]
   rfl
  | false =>
   simp only [cond_false]
   rw [hC _ (by unfold fS;rw [blt_t hlt,ble_t hlb];rfl)]
   have:(fS z (tok0 z.s z.p)).t=(signO z.s z.p).t:=by rw [signO_t];rfl
   rw [this]
   rfl
theorem tokens (z:Scn) (hp:z.p≤z.s.length) (hl:z.s.length≤100000) (ht:z.toks.length≤100000):SndS 18 z [] (.tup []) z.tokd:=by
 have hL:=loops_of (f:=18) (fn:=Tryz.f18) (by kernel_rfl) (loops_0 ids16 (L:=noL))
 have key:=tkB_eq hp hl ht
 obtain ⟨s,p,toks,bad,bp⟩:=z
 cases toks with
 | nil=>exact snd_m (n:=3) tTk_ok (noTL_ok _ _) (fn:=Tryz.f18) (by kernel_rfl) hL ((e16n s p bad bp).trans key)
 | cons x l=>exact snd_m (n:=3) tTk_ok (noTL_ok _ _) (fn:=Tryz.f18) (by kernel_rfl) hL ((e16c s p x l bad bp).trans key)
end Go.Proofs.YtcgbgcconigdbaaGreatDoor
namespace Go.Proofs.YtcgbgcconigdbaaGreatDoor
open Go.Eng
set_option maxRecDepth 100000
def lettersS:Str:=[97,98,99,100,101,102,103,104,105,106,107,108,109,110,111,112,113,114,115,116,117,118,119,120,121,122,95]
def digitsS:Str:=[48,49,50,51,52,53,54,55,56,57]
theorem of1:ev tell0 noTL 3 15 [.str lettersS]=some (.agg [.int .u64 0,.int .u64 576460745860972544]):=by kernel_rfl
theorem of2:ev tell0 noTL 3 15 [.str (lettersS++digitsS)]=some (.agg [.int .u64 287948901175001088,.int .u64 576460745860972544]):=by kernel_rfl
theorem of3:ev tell0 noTL 3 15 [.str digitsS]=some (.agg [.int .u64 287948901175001088,.int .u64 0]):=by kernel_rfl
def pOf:List (D Pl)→Option (Bool×D Pl)
 | [.str l]=>bif Nat.beq l.length 27 then some (l==lettersS,.agg [.int .u64 0,.int .u64 576460745860972544]) else bif Nat.beq l.length 37 then some (l==lettersS++digitsS,.agg [.int .u64 287948901175001088,.int .u64 576460745860972544])
  else some (l==digitsS,.agg [.int .u64 287948901175001088,.int .u64 0])
 | _=>none
theorem pOf_ok:∀ds b d,pOf ds=some (b,d)→b=true→Snd 15 ds d:=by
 intro ds b d h hb
 unfold pOf at h
 split at h
 ·rename_i l
  cases h1:Nat.beq l.length 27 with
  | true =>
   rw [h1] at h
   simp only [cond_true,Option.some.injEq,Prod.mk.injEq] at h
   obtain ⟨rfl,rfl⟩:=h
   rw [beq_iff_eq] at hb
   subst hb
   exact snd_of (tell0_ok _) (noTL_ok _ _) of1
  | false =>
   rw [h1] at h
   cases h2:Nat.beq l.length 37 with
   | true =>
    rw [h2] at h
    simp only [cond_true,cond_false,Option.some.injEq,Prod.mk.injEq] at h
    obtain ⟨rfl,rfl⟩:=h
    rw [beq_iff_eq] at hb
    subst hb
    exact snd_of (tell0_ok _) (noTL_ok _ _) of2
   | false =>
    rw [h2] at h
    simp only [cond_false,Option.some.injEq,Prod.mk.injEq] at h
    obtain ⟨rfl,rfl⟩:=h
    rw [beq_iff_eq] at hb
    subst hb
    exact snd_of (tell0_ok _) (noTL_ok _ _) of3
 ·simp at h
def pToken (z:Scn):List (D Pl)→Option (Bool×D Pl×Scn)
 | []=>some (Nat.ble z.p z.s.length&&(Nat.ble z.s.length 100000&&Nat.ble z.toks.length 100000),.tup [],z.tokd)
 | _=>none
theorem pToken_ok:∀z args c d z',pToken z args=some (c,d,z')→c=true→SndS 18 z args d z':=by
 intro z args c d z' h hc
 unfold pToken at h
 split at h
 ·simp only [Option.some.injEq,Prod.mk.injEq] at h
  obtain ⟨rfl,rfl,rfl⟩:=h
  simp only [Bool.and_eq_true,Nat.ble_eq] at hc
  exact tokens z hc.1 hc.2.1 hc.2.2
 ·simp at h
noncomputable def tAl:Eng.Told Pl:=tellM 17 (pM pBlank) (tellM 18 (pM pToken) (tell 15 pOf tell0))
theorem tAl_ok:TOk tAl:=tellM_ok (pM_ok pBlank_ok) (tellM_ok (pM_ok pToken_ok) (tell_ok pOf_ok (tell0_ok _)))
def encA (z:Scn):Obs Pl:=match z.toks with
 | []=>[(10,.box false (bxc z.s z.p (ln z.s z.p) (sn z.s z.p) (tailD .nilS z.bad z.bp)))]
 | t::l=>[(10,.box false (bxc z.s z.p (ln z.s z.p) (sn z.s z.p) (tailD (.arr 10010010) z.bad z.bp))),(10010010,.arr false ⟨.toks,t::l⟩)]
def dgC (e:Int) (q:PosR):List (D Pl):=[dI e,dI q.at',dI q.line,dI q.col,.str []]
def sA (z:Scn) (d:List (D Pl)):St Pl:=mkS 58 [(2,.nilS),(3,.ptr 3 0),(4,.ptr 10 0)] (encA z++[(3,.box false d)])
def lastK (l:List TokR):Int:=(l.getD (w64 ((l.length:Int) - 1)).toNat default).kind
def q0:PosR:=⟨0,0,0⟩
def aE (z:Scn):Option (Ex×St Pl):=bif z.bad != 0 then some (.ret,sA z (dgC z.bad z.bp)) else some (.normal,sA z (dgC 0 q0))
def pickA (x:Option (Ex×St Pl)):Ex×St Pl:=x.getD (.ret,⟨[],[]⟩)
def aT (z:Scn):Option (Ex×St Pl):=ck_ (okS z.s z.p&&(Nat.ble z.p z.s.length&&(Nat.ble z.s.length 100000&&Nat.ble z.toks.length 100000))) (aE z.tokd)
def aR (z:Scn):Option (Ex×St Pl):=ck_ (okS z.s z.p&&(Nat.ble z.p z.s.length&&Nat.ble z.s.length big)) (aT (z.go (blankM z.s z.p)))
def aB (z:Scn):Option (Ex×St Pl):=match z.toks with
 | []=>aR z
 | x::l=>ck_ ((decide (0≤w64 (((x::l).length:Int) - 1))&&decide (w64 (((x::l).length:Int) - 1) < ((x::l).length:Int)))||!((((x::l).length:Int)==0)==false))
  (bif lastK (x::l) != 0 then aR z else some (.exit 0,sA z (dgC 0 q0)))
noncomputable abbrev evA (S:St Pl):=evX tAl noTL noL 4 (loopAt 9 0) [2,3,4] [] [(10,10,10010010)] [10,10010010,3] S
theorem b7n (s:Str) (p:Nat) (bad:Int) (bp:PosR):evA (sA ⟨s,p,[],bad,bp⟩ (dgC 0 q0))=aB ⟨s,p,[],bad,bp⟩:=by kernel_rfl
theorem b7c (s:Str) (p:Nat) (x:TokR) (l:List TokR) (bad:Int) (bp:PosR):evA (sA ⟨s,p,x::l,bad,bp⟩ (dgC 0 q0))=aB ⟨s,p,x::l,bad,bp⟩:=by kernel_rfl
theorem ids7:(loopsAt 9).length=1∧firstId (loopAt 9 0)=4∧loopsOf (loopAt 9 0)=[]:=⟨by kernel_rfl,by kernel_rfl,by kernel_rfl⟩
theorem goA (z:Scn) {e:Ex} {S:St Pl} (h:aB z=some (e,S)):Goes X0 (loopAt 9 0) (sA z (dgC 0 q0)) e S:=by
 obtain ⟨s,p,toks,bad,bp⟩:=z
 cases toks with
 | nil=>exact goes_ofX tAl_ok (noTL_ok _ _) (noLoops ids7.2.2) ((b7n s p bad bp).trans h)
 | cons x l=>exact goes_ofX tAl_ok (noTL_ok _ _) (noLoops ids7.2.2) ((b7c s p x l bad bp).trans h)
theorem lastK_app (l:List TokR) (t:TokR) (h:l.length≤100001):lastK (l++[t])=t.kind:=by
 unfold lastK
 have hw:w64 (((l++[t]).length:Int) - 1)=(l.length:Int):=by
  rw [List.length_append,List.length_singleton,show ((l.length+1:Nat):Int) - 1=(l.length:Int) by omega]
  exact wrap_in _ (by omega)
 rw [hw,Int.toNat_natCast,List.getD_eq_getElem?_getD,List.getElem?_append_right (Nat.le_refl _),Nat.sub_self]
 rfl
theorem aB_go {z:Scn} (h:z.toks=[]∨(lastK z.toks != 0)=true) (hn:z.toks.length≤100000):aB z=aR z:=by
 unfold aB
 cases ht:z.toks with
 | nil=>rfl
 | cons x l =>
  rw [ht] at h hn
  have h1:(lastK (x::l) != 0)=true:=by
   rcases h with h | h
   ·cases h
   ·exact h
  simp only
  have hlen:(x::l).length=l.length+1:=rfl
  have hw:w64 (((x::l).length:Int) - 1)=(l.length:Int):=by
   rw [hlen,show ((l.length+1:Nat):Int) - 1=(l.length:Int) by omega]
   exact wrap_in _ (by omega)
  rw [hw,h1,ck_t (by rw [decide_eq_true (show (0:Int)≤(l.length:Int) by omega),decide_eq_true (show (l.length:Int) < ((x::l).length:Int) by omega)];rfl)]
  rfl
theorem aB_end {z:Scn} (h0:z.toks≠[]) (h:(lastK z.toks != 0)=false) (hn:z.toks.length≤100001):aB z=some (.exit 0,sA z (dgC 0 q0)):=by
 unfold aB
 cases ht:z.toks with
 | nil=>exact absurd ht h0
 | cons x l =>
  rw [ht] at h hn
  simp only
  have hlen:(x::l).length=l.length+1:=rfl
  have hw:w64 (((x::l).length:Int) - 1)=(l.length:Int):=by
   rw [hlen,show ((l.length+1:Nat):Int) - 1=(l.length:Int) by omega]
   exact wrap_in _ (by omega)
  rw [hw,h,ck_t (by rw [decide_eq_true (show (0:Int)≤(l.length:Int) by omega),decide_eq_true (show (l.length:Int) < ((x::l).length:Int) by omega)];rfl)]
  rfl
theorem aR_eq {z:Scn} (hp:z.p≤z.s.length) (hl:z.s.length≤90000) (ht:z.toks.length≤100000):aR z=aE (z.go (blankM z.s z.p)).tokd:=by
 have hbig:big=140737488355328:=rfl
 have hb:=blankM_in z.s _ z.p rfl hp
 unfold aR aT
 rw [ck_t (by rw [okS_t,ble_t hp,ble_t (by omega)];rfl),ck_t (by rw [okS_t,ble_t (show (z.go (blankM z.s z.p)).p≤(z.go (blankM z.s z.p)).s.length from hb.2),ble_t (show (z.go (blankM z.s z.p)).s.length≤100000 by show z.s.length≤_;omega),ble_t (show (z.go (blankM z.s z.p)).toks.length≤100000 from ht)];rfl)]
def sE (e:Int) (q:PosR):St Pl:=mkS 58 [(2,.nilS),(3,.ptr 3 0)] [(3,.box false (dgC e q))]
theorem wE (z:Scn) (e:Int) (q:PosR):normS (keepOf [2,3]) (keepOf [10,10010010]) (sA z (dgC e q))=sE e q:=by
 obtain ⟨s,p,toks,bad,bp⟩:=z
 cases toks<;>rfl
theorem allK_any {s:Str} {p:Nat} (k k':Nat) (acc:List TokR) (hp:p≤s.length) (h:s.length - p < k) (h':s.length - p < k'):allK k s p acc=allK k' s p acc:=by
 obtain ⟨l,e,bp,h1,h2⟩:=allK_to s k p acc hp h
 rw [h2,to_allK h1 hp k' acc h']
def aRes (z:Scn):Ex×St Pl:=bif (allK (z.s.length - z.p+1) z.s z.p z.toks).bad==0 then (.exit 0,sA ⟨z.s,z.s.length,(allK (z.s.length - z.p+1) z.s z.p z.toks).l,0,q0⟩ (dgC 0 q0))
 else (.ret,sE (allK (z.s.length - z.p+1) z.s z.p z.toks).bad (allK (z.s.length - z.p+1) z.s z.p z.toks).bp)
theorem tokO_end (s:Str):tokO s s.length=⟨tok0 s s.length,s.length,0⟩:=by
 unfold tokO
 rw [Nat.beq_refl];rfl
theorem loopA (z:Scn) (hz:z.bad=0) (hq:z.bp=q0) (hp:z.p≤z.s.length) (hl:z.s.length≤90000) (ht:z.toks=[]):Goes X0 (.loop (loopAt 9 0)) (sA z (dgC 0 q0)) (aRes z).1 (aRes z).2:=by
 refine loop_run (A:=Bool×Scn) (Sf:=fun a=>sA a.2 (dgC 0 q0))
  (fun a=>a.2.bad=0∧a.2.bp=q0∧a.2.p≤a.2.s.length∧a.2.s.length≤90000∧(a.1=true→a.2.p=a.2.s.length∧a.2.toks≠[]∧(lastK a.2.toks != 0)=false∧a.2.toks.length≤100001)∧(a.1=false→a.2.toks.length≤a.2.p∧(a.2.toks=[]∨(lastK a.2.toks != 0)=true)))
  (fun a=>bif a.1 then 0 else a.2.s.length - a.2.p+1) (fun a=>bif a.1 then (.exit 0,sA a.2 (dgC 0 q0)) else aRes a.2) ?_ (false,z) ⟨hz,hq,hp,hl,fun h=>by simp at h,fun _=>⟨by rw [ht];exact Nat.zero_le _,.inl ht⟩⟩
 rintro ⟨d,z⟩ ⟨hz,hq,hp,hl,h1,h2⟩
 simp only at hz hq hp hl h1 h2 ⊢
 cases d with
 | true =>
  obtain ⟨_,h3,h4,h5⟩:=h1 rfl
  exact .inr ⟨by simp,goA z (aB_end h3 h4 h5)⟩
 | false =>
  obtain ⟨h3,h4⟩:=h2 rfl
  have hgo:=goA z (e:=(pickA (aE (z.go (blankM z.s z.p)).tokd)).1) (S:=(pickA (aE (z.go (blankM z.s z.p)).tokd)).2) (by
   rw [aB_go h4 (by omega),aR_eq hp hl (by omega)]
   unfold aE
   cases (z.go (blankM z.s z.p)).tokd.bad != 0<;>rfl)
  have hb:=blankM_in z.s _ z.p rfl hp
  obtain ⟨s,p,toks,bad,bp⟩:=z
  simp only at hz hq hp hl h3 h4 hb
  subst hz hq
  have hstep:allK (s.length - p+1) s p toks=bif !((tokO s (blankM s p)).e==0) then ⟨[],(tokO s (blankM s p)).e,posR s (blankM s p)⟩
   else bif (tokO s (blankM s p)).t.kind==0 then ⟨toks++[(tokO s (blankM s p)).t],0,⟨0,0,0⟩⟩
   else allK (s.length - p) s (tokO s (blankM s p)).q (toks++[(tokO s (blankM s p)).t]):=rfl
  have hbad:(Scn.tokd ⟨s,blankM s p,toks,0,q0⟩)=⟨s,(tokO s (blankM s p)).q,toks++[(tokO s (blankM s p)).t],(tokO s (blankM s p)).e,bif (tokO s (blankM s p)).e==0 then q0 else posR s (blankM s p)⟩:=by
   unfold Scn.tokd Scn.past Scn.app Scn.go Scn.fail
   cases he:(tokO s (blankM s p)).e==0 with
   | true=>rw [beq_iff_eq] at he;simp only [he,cond_true]
   | false=>rfl
  have hgo:Goes X0 (loopAt 9 0) (sA ⟨s,p,toks,0,q0⟩ (dgC 0 q0)) (pickA (aE (Scn.tokd ⟨s,blankM s p,toks,0,q0⟩))).1 (pickA (aE (Scn.tokd ⟨s,blankM s p,toks,0,q0⟩))).2:=hgo
  rw [hbad] at hgo
  unfold aE at hgo
  simp only at hgo
  cases he:(tokO s (blankM s p)).e==0 with
  | false =>
   rw [he] at hstep hgo
   have hne:((tokO s (blankM s p)).e != 0)=true:=by rw [bne,he];rfl
   rw [hne] at hgo
   have hr:aRes ⟨s,p,toks,0,q0⟩=(.ret,sE (tokO s (blankM s p)).e (posR s (blankM s p))):=by
    unfold aRes
    simp only [hstep,Bool.not_false,cond_true,he,cond_false]
   refine .inr ⟨by show (aRes _).1≠_;rw [hr];simp,?_⟩
   show Goes X0 _ _ (aRes _).1 (aRes _).2
   rw [hr]
   have:=hgo.norm xok (keepOf [2,3]) (keepOf [10,10010010])
   simp only [cond_true,cond_false,pickA,Option.getD_some] at this
   rwa [wE] at this
  | true =>
   have hne:((tokO s (blankM s p)).e != 0)=false:=by rw [bne,he];rfl
   rw [hne] at hgo
   rw [he] at hstep hgo
   have he0:(tokO s (blankM s p)).e=0:=by simpa using he
   rw [he0] at hgo
   simp only [cond_true,cond_false,pickA,Option.getD_some] at hgo
   obtain ⟨k1,_,k2⟩:=tokO_in hb.2 he
   have hlast:=lastK_app toks (tokO s (blankM s p)).t (by omega)
   rcases k2 with ⟨k2,k3⟩ | ⟨k2,k3⟩
   ·rw [k2] at hstep
    have hq:(tokO s (blankM s p)).q=s.length:=by rw [k3,tokO_end]
    refine .inl ⟨(true,⟨s,(tokO s (blankM s p)).q,toks++[(tokO s (blankM s p)).t],0,q0⟩),⟨rfl,rfl,k1,hl,fun _=>⟨hq,by simp,?_,?_⟩,fun h=>by simp at h⟩,by simp,?_,hgo⟩
    ·show (lastK (toks++_) != 0)=false
     rw [hlast,bne,k2];rfl
    ·show (toks++_).length≤_
     rw [List.length_append,List.length_singleton];omega
    ·show aRes _=(.exit 0,_)
     unfold aRes
     simp only [hstep,Bool.not_true,cond_false,cond_true,hq]
     rfl
   ·rw [k2] at hstep
    refine .inl ⟨(false,⟨s,(tokO s (blankM s p)).q,toks++[(tokO s (blankM s p)).t],0,q0⟩),⟨rfl,rfl,k1,hl,fun h=>by simp at h,fun _=>⟨?_,.inr ?_⟩⟩,?_,?_,hgo⟩
    ·show (toks++_).length≤(tokO s (blankM s p)).q
     rw [List.length_append,List.length_singleton];omega
    ·show (lastK (toks++_) != 0)=true
     rw [hlast,bne,k2];rfl
    ·show s.length - (tokO s (blankM s p)).q+1 < s.length - p+1
     omega
    ·show aRes _=aRes _
     unfold aRes
     simp only [hstep,Bool.not_true,cond_false]
     rw [allK_any (s.length - p) (s.length - (tokO s (blankM s p)).q+1) _ k1 (by omega) (by omega)]
end Go.Proofs.YtcgbgcconigdbaaGreatDoor
namespace Go.Proofs.YtcgbgcconigdbaaGreatDoor
open Go.Eng
set_option maxRecDepth 100000
def is0:List (D Pl)→Bool
 | [.int .i64 a,.int .i64 b,.int .i64 c,.int .i64 d,.str []]=>(a==0&&b==0)&&(c==0&&d==0)
 | _=>false
theorem is0_eq {l:List (D Pl)} (h:is0 l=true):l=dgC 0 q0:=by
 unfold is0 at h
 split at h
 ·simp only [Bool.and_eq_true,beq_iff_eq] at h
  obtain ⟨⟨rfl,rfl⟩,rfl,rfl⟩:=h
  rfl
 ·simp at h
def decA:List (D Pl)→Option (Bool×Str)
 | [.str s,.int .i64 a,.int .i64 b,.int .i64 c,.int .u64 d1,.int .u64 d2,.int .u64 d3,.int .u64 d4,.int .u64 d5,.int .u64 d6,.nilS,.int .i64 e1,.int .i64 e2,.int .i64 e3,.int .i64 e4,.str []] =>
  some (((a==0&&b==1)&&(c==0&&(d1==0&&d6==0)))&&(((d2==cF&&d3==cN)&&(d4==cF&&d5==cN))&&((e1==0&&e2==0)&&(e3==0&&e4==0))),s)
 | _=>none
theorem decA_eq {l:List (D Pl)} {b:Bool} {s:Str} (h:decA l=some (b,s)) (hb:b=true):l=bxc s ((0:Nat):Int).toNat (ln s 0) (sn s 0) (tailD .nilS 0 q0):=by
 unfold decA at h
 split at h
 ·simp only [Option.some.injEq,Prod.mk.injEq] at h
  obtain ⟨rfl,rfl⟩:=h
  simp only [Bool.and_eq_true,beq_iff_eq] at hb
  obtain ⟨⟨⟨rfl,rfl⟩,rfl,rfl,rfl⟩,⟨⟨rfl,rfl⟩,rfl,rfl⟩,⟨rfl,rfl⟩,rfl,rfl⟩:=hb
  rfl
 ·simp at h
def rA (s:Str):LR Pl:=.ite ((allK (s.length+1) s 0 []).bad==0)
 (.leaf (.exit 0) (mkS 58 [(2,.nilS),(3,.ptr 3 0),(4,.ptr 10 0)] [(10,.box false (bxc s s.length (ln s s.length) (sn s s.length) (tailD (.arr 10010010) 0 q0))),(10010010,.arr false ⟨.toks,(allK (s.length+1) s 0 []).l⟩),(3,.box false (dgC 0 q0))]))
 (.leaf .ret (sE (allK (s.length+1) s 0 []).bad (allK (s.length+1) s 0 []).bp))
theorem rA_eq (s:Str):pickR (rA s)=aRes ⟨s,0,[],0,q0⟩:=by
 unfold rA aRes
 simp only [Nat.sub_zero]
 obtain ⟨l,e,bp,h1,h2⟩:=allK_to s (s.length+1) 0 [] (Nat.zero_le _) (by omega)
 rw [h2]
 cases he:e==0 with
 | true =>
  rw [beq_iff_eq] at he
  subst he
  have:=(lexTo_zero h1).2
  cases l with
  | nil=>exact absurd rfl this
  | cons x r=>rfl
 | false=>simp only [pickR,cond_false]
def LSA (S:St Pl):Option (Bool×LR Pl):=match seenS 58 [2,3,4] S with
 | some ([.nilS,.ptr 3 0,.ptr 10 0],[(10,.box false c10),(3,.box false c3)])=>match decA c10 with
  | some (c,s)=>some ((c&&is0 c3)&&Nat.ble s.length 90000,rA s)
  | none=>none
 | _=>none
theorem LSA_ok:SOk X0 (loopAt 9 0) LSA:=by
 intro S b r h hb
 unfold LSA at h
 split at h
 ·rename_i c10 c3 hs
  split at h
  ·rename_i c s hd
   simp only [Option.some.injEq,Prod.mk.injEq] at h
   obtain ⟨rfl,rfl⟩:=h
   simp only [Bool.and_eq_true,Nat.ble_eq] at hb
   obtain ⟨⟨rfl,h1⟩,h2⟩:=hb
   refine Goes.pre (keepOf [2,3,4]) ?_
   rw [seenS_mask hs,decA_eq hd rfl,is0_eq h1,rA_eq]
   exact loopA ⟨s,0,[],0,q0⟩ rfl rfl (Nat.zero_le _) h2 rfl
  ·simp at h
 ·simp at h
def ansA (l:D Pl) (e:Int) (q:PosR):Option (D Pl):=some (.tup [l,.agg (dgC e q)])
def alF (s:Str):Option (D Pl):=bif decide ((s.length:Int) > 32768) then ansA .nilS 3 (posW ⟨s,0,[],0,q0⟩)
 else ck_ (Nat.ble s.length 90000) (bif (allK (s.length+1) s 0 []).bad==0 then ansA (.pl ⟨.toks,(allK (s.length+1) s 0 []).l⟩ .any) 0 q0 else ansA .nilS (allK (s.length+1) s 0 []).bad (allK (s.length+1) s 0 []).bp)
theorem e7 (s:Str):evF tAl noTL (atL 4 LSA noL) 4 Tryz.f9 [.str s]=alF s:=by kernel_rfl
abbrev pToks (l:List TokR):Pl:=⟨.toks,l⟩
theorem all_sound (s:Str):Snd 9 [.str s] (.tup [.pl (pToks (allM s).l) .any,.agg (dgC (allM s).bad (allM s).bp)]):=by
 have hL:=loops_of (f:=9) (fn:=Tryz.f9) (by kernel_rfl) (loops_1 ids7.1 (L:=atL 4 LSA noL) (atL_ok (fun _=>LSA_ok) fun h=>absurd ids7.2.1 h))
 have key:∃d,alF s=some d∧RDle X0.C d (.tup [.pl (pToks (allM s).l) .any,.agg (dgC (allM s).bad (allM s).bp)]):=by
  have hle:∀(l:List TokR) (e:Int) (q:PosR),l=[]→RDle X0.C (.tup [.nilS,.agg (dgC e q)]) (.tup [.pl (pToks l) .any,.agg (dgC e q)]):=fun l e q h =>
   RDle.tup (.cons (RDle.of (by subst h;exact .nil _ rfl)) (.cons (RDle.refl _) .nil))
  unfold alF allM
  by_cases h:32768 < s.length
  ·rw [decide_eq_true (show (s.length:Int) > 32768 by omega),blt_t h]
   exact ⟨_,rfl,hle [] 3 _ rfl⟩
  ·rw [decide_eq_false (show ¬ (s.length:Int) > 32768 by omega),blt_f h,cond_false,cond_false,ck_t (ble_t (by omega))]
   obtain ⟨l,e,bp,h1,h2⟩:=allK_to s (s.length+1) 0 [] (Nat.zero_le _) (by omega)
   rw [h2]
   cases he:e==0 with
   | true =>
    rw [beq_iff_eq] at he
    subst he
    obtain ⟨rfl,_⟩:=lexTo_zero h1
    exact ⟨_,rfl,RDle.refl _⟩
   | false =>
    simp only [cond_false]
    exact ⟨_,rfl,hle [] e bp rfl⟩
 obtain ⟨d,h1,h2⟩:=key
 have ho:isOw (D.tup [.pl (pToks (allM s).l) .any,.agg (dgC (allM s).bad (allM s).bp)]:D Pl)=false:=rfl
 exact SoundAt.post h2 (snd_fn (n:=4) tAl_ok (noTL_ok _ _) (fn:=Tryz.f9) (by kernel_rfl) hL ((e7 s).trans h1)) ho
def pAll:List (D Pl)→Option (Bool×D Pl)
 | [.str s]=>some (true,.tup [.pl (pToks (allM s).l) .any,.agg (dgC (allM s).bad (allM s).bp)])
 | _=>none
theorem pAll_ok:∀ds b d,pAll ds=some (b,d)→b=true→Snd 9 ds d:=by
 intro ds b d h hb
 unfold pAll at h
 split at h
 ·simp only [Option.some.injEq,Prod.mk.injEq] at h
  obtain ⟨_,rfl⟩:=h
  exact all_sound _
 ·simp at h
end Go.Proofs.YtcgbgcconigdbaaGreatDoor
