/-
 WHAT THE PROGRAM's READER READS: its methods' contracts, over what is read deeper; elements, pairs, lists.
-/
import Derived.Test.YtcgbgcconigdbaaGreatDoorAll
import Derived.Test.YtcgbgcconigdbaaGreatDoorMoved6
namespace Go.Proofs.YtcgbgcconigdbaaGreatDoor.Rd
open Go.Eng
set_option maxRecDepth 100000
def resvd:List Str:=[[116,114,117,101],[102,97,108,115,101],[110,117,108,108],[102,111,114],[105,110],[105,102]]
def resK (s:Str):List Str→Option (D Pl)
 | []=>some (.bool false)
 | w::r=>bif s==w then some (.bool true) else resK s r
theorem e13 (s:Str):ev tell0 noTL 5 70 [.str s]=resK s resvd:=by kernel_rfl
def resV (s:Str):Bool:=bif (bif (bif (bif (bif s==[116,114,117,101] then true else s==[102,97,108,115,101]) then true else s==[110,117,108,108]) then true else s==[102,111,114]) then true else s==[105,110]) then true else s==[105,102]
theorem resv_sound (s:Str):Snd 70 [.str s] (.bool (resV s)):=snd_of (tell0_ok _) (noTL_ok _ _) ((e13 s).trans (by
 unfold resV
 simp only [resvd,resK]
 cases s==[116,114,117,101]<;>cases s==[102,97,108,115,101]<;>cases s==[110,117,108,108]<;>cases s==[102,111,114]<;>cases s==[105,110]<;>cases s==[105,102]<;>rfl))
structure Rdr where
 l:List TokR
 a:Int
 c:Int
 p:PosR
def cRdr (z:Rdr):List (D Pl):=[.pl (pToks z.l) .any,dI z.a,dI z.c,dI z.p.at',dI z.p.line,dI z.p.col,.str []]
def encR (z:Rdr):List (D Pl):=[.obB 50000 (cRdr z)]
def decR:List (D Pl)→Option Rdr
 | [.obB 50000 [.pl ⟨.toks,l⟩ .any,.int .i64 a,.int .i64 c,.int .i64 x,.int .i64 y,.int .i64 w,.str []]]=>some ⟨l,a,c,⟨x,y,w⟩⟩
 | _=>none
theorem decR_enc {os:List (D Pl)} {z:Rdr} (h:decR os=some z):os=encR z:=by
 unfold decR at h
 split at h
 ·simp only [Option.some.injEq] at h;subst h;rfl
 ·simp at h
def pR (f:Rdr→List (D Pl)→Option (Bool×D Pl×Rdr)):List (D Pl)→List (D Pl)→Option (Bool×D Pl×List (D Pl)):=fun os ds=>match os with
 | o::r=>match decR (o::r) with
  | some z=>(match ds with
   | .ptr 50000 0::args=>(match f z args with
    | some (c,d,z')=>some (c,d,encR z')
    | none=>none)
   | _=>none)
  | none=>none
 | _=>none
abbrev SndR (g:FuncId) (z:Rdr) (args:List (D Pl)) (d:D Pl) (z':Rdr):Prop:=SndM g (decH (encR z)) (.ptr 50000 0::args) d (decH (encR z'))
theorem pR_ok {g:FuncId} {f:Rdr→List (D Pl)→Option (Bool×D Pl×Rdr)} (hf:∀z args c d z',f z args=some (c,d,z')→c=true→SndR g z args d z'):∀os ds b d os',pR f os ds=some (b,d,os')→b=true→SndM g (decH os) ds d (decH os'):=by
 intro os ds b d os' h hb
 unfold pR at h
 split at h
 ·split at h
  ·rename_i z hz
   split at h
   ·split at h
    ·rename_i c d0 z' hfz
     simp only [Option.some.injEq,Prod.mk.injEq] at h
     obtain ⟨rfl,rfl,rfl⟩:=h
     rw [decR_enc hz]
     exact hf _ _ _ _ _ hfz hb
    ·simp at h
   ·simp at h
  ·simp at h
 ·simp at h
def tok00:TokR:=⟨0,[],0,[],⟨0,0,0⟩⟩
def outA (l:List TokR) (a:Int):Bool:=bif decide (a < 0) then true else decide (a ≥ (l.length:Int))
def tokA (l:List TokR) (a:Int):TokR:=bif outA l a then tok00 else l.getD a.toNat default
def isA (l:List TokR) (a c:Int) (s:Str):Bool:=bif (bif c==0 then (tokA l a).kind==4 else false) then (tokA l a).s==s else false
theorem eTok (z:Rdr):evM tell0 noTL noL 1 Tryz.f12 (decH (encR z)) [.ptr 50000 0] =
  bif outA z.l z.a then some (.env (encR z) (.agg [dI 0,.str [],dI 0,.nilS,dI 0,dI 0,dI 0])) else
   ck_ ((decide (0≤z.a)&&decide (z.a < (z.l.length:Int)))||false) (some (.env (encR z) (.agg (cTok (z.l.getD z.a.toNat default))))):=by kernel_rfl
theorem outA_f {l:List TokR} {a:Int} (h:outA l a=false):0≤a∧a < (l.length:Int):=by
 unfold outA at h
 by_cases h1:a < 0
 ·rw [decide_eq_true h1] at h;simp at h
 ·rw [decide_eq_false h1] at h
  simp only [cond_false,decide_eq_false_iff_not] at h
  omega
theorem tok0_rdle:RDle X0.C (.agg [dI 0,.str [],dI 0,.nilS,dI 0,dI 0,dI 0]) (.agg (cTok tok00)) :=
 RDle.agg (.cons (RDle.refl _) (.cons (RDle.refl _) (.cons (RDle.refl _) (.cons (RDle.of (.nil _ rfl)) (.cons (RDle.refl _) (.cons (RDle.refl _) (.cons (RDle.refl _) .nil)))))))
theorem tok_sound (z:Rdr):SndR 12 z [] (.agg (cTok (tokA z.l z.a))) z:=by
 unfold tokA
 cases h:outA z.l z.a with
 | true=>exact SoundM.post tok0_rdle (snd_m (n:=1) (tell0_ok _) (noTL_ok _ _) (fn:=Tryz.f12) (by kernel_rfl) (loops_of (f:=12) (fn:=Tryz.f12) (by kernel_rfl) (loops_0 (by kernel_rfl))) ((eTok z).trans (by rw [h];rfl)))
 | false =>
  obtain ⟨h1,h2⟩:=outA_f h
  exact snd_m (n:=1) (tell0_ok _) (noTL_ok _ _) (fn:=Tryz.f12) (by kernel_rfl) (loops_of (f:=12) (fn:=Tryz.f12) (by kernel_rfl) (loops_0 (by kernel_rfl)))
   ((eTok z).trans (by rw [h,cond_false,ck_t (by rw [decide_eq_true h1,decide_eq_true h2];rfl)];rfl))
def pTok (z:Rdr):List (D Pl)→Option (Bool×D Pl×Rdr)
 | []=>some (true,.agg (cTok (tokA z.l z.a)),z)
 | _=>none
theorem pTok_ok:∀z args c d z',pTok z args=some (c,d,z')→c=true→SndR 12 z args d z':=by
 intro z args c d z' h _
 unfold pTok at h
 split at h
 ·simp only [Option.some.injEq,Prod.mk.injEq] at h
  obtain ⟨_,rfl,rfl⟩:=h
  exact tok_sound _
 ·simp at h
theorem eOk (z:Rdr):ev tell0 noTL 1 13 [.ref (cRdr z)]=some (.bool (z.c==0)):=by kernel_rfl
theorem eIs (z:Rdr) (s:Str):ev tell0 noTL 3 20 [.ref (cRdr z),.str s] =
  bif outA z.l z.a then some (.bool (bif (bif z.c==0 then (0:Int)==4 else false) then ([]:Str)==s else false)) else
   ck_ ((decide (0≤z.a)&&decide (z.a < (z.l.length:Int)))||false) (some (.bool (bif (bif z.c==0 then (z.l.getD z.a.toNat default).kind==4 else false) then (z.l.getD z.a.toNat default).s==s else false))):=by kernel_rfl
theorem is_sound (z:Rdr) (s:Str):Snd 20 [.ref (cRdr z),.str s] (.bool (isA z.l z.a z.c s)):=by
 refine snd_of (n:=3) (tell0_ok _) (noTL_ok _ _) ((eIs z s).trans ?_)
 unfold isA tokA
 cases h:outA z.l z.a with
 | true=>rfl
 | false =>
  obtain ⟨h1,h2⟩:=outA_f h
  rw [cond_false,ck_t (by rw [decide_eq_true h1,decide_eq_true h2];rfl)]
  rfl
def pOk:List (D Pl)→Option (Bool×D Pl)
 | [.ref [.pl ⟨.toks,_⟩ .any,.int .i64 _,.int .i64 c,.int .i64 _,.int .i64 _,.int .i64 _,.str []]]=>some (true,.bool (c==0))
 | _=>none
theorem pOk_ok:∀ds b d,pOk ds=some (b,d)→b=true→Snd 13 ds d:=by
 intro ds b d h _
 unfold pOk at h
 split at h
 ·simp only [Option.some.injEq,Prod.mk.injEq] at h
  obtain ⟨_,rfl⟩:=h
  exact snd_of (n:=1) (tell0_ok _) (noTL_ok _ _) (eOk ⟨_,_,_,⟨_,_,_⟩⟩)
 ·simp at h
def pIs:List (D Pl)→Option (Bool×D Pl)
 | [.ref [.pl ⟨.toks,l⟩ .any,.int .i64 a,.int .i64 c,.int .i64 _,.int .i64 _,.int .i64 _,.str []],.str s]=>some (true,.bool (isA l a c s))
 | _=>none
theorem pIs_ok:∀ds b d,pIs ds=some (b,d)→b=true→Snd 20 ds d:=by
 intro ds b d h _
 unfold pIs at h
 split at h
 ·simp only [Option.some.injEq,Prod.mk.injEq] at h
  obtain ⟨_,rfl⟩:=h
  exact is_sound ⟨_,_,_,⟨_,_,_⟩⟩ _
 ·simp at h
abbrev lvOps:Nat→List (KT.str.C×VT.int.C)
 | 0=>[(([124,124]:Str),(20:Int))]
 | 1=>[(([38,38]:Str),(19:Int))]
 | 2=>[(([61,61]:Str),(17:Int)),(([33,61]:Str),(18:Int)),(([60]:Str),(13:Int)),(([60,61]:Str),(14:Int)),(([62]:Str),(15:Int)),(([62,61]:Str),(16:Int))]
 | 3=>[(([43]:Str),(11:Int)),(([45]:Str),(12:Int))]
 | _=>[(([42]:Str),(8:Int)),(([47]:Str),(9:Int)),(([37]:Str),(10:Int))]
def cLv:List (D Pl):=[.mr (pMap .str .int (lvOps 0)),.bool false,.mr (pMap .str .int (lvOps 1)),.bool false,.mr (pMap .str .int (lvOps 2)),.bool true,.mr (pMap .str .int (lvOps 3)),.bool false,.mr (pMap .str .int (lvOps 4)),.bool false]
theorem eLv:ev tell0 noTL 1 29 []=some (.agg cLv):=by kernel_rfl
def pLv:List (D Pl)→Option (Bool×D Pl)
 | []=>some (true,.agg cLv)
 | _=>none
theorem pLv_ok:∀ds b d,pLv ds=some (b,d)→b=true→Snd 29 ds d:=by
 intro ds b d h _
 unfold pLv at h
 split at h
 ·simp only [Option.some.injEq,Prod.mk.injEq] at h
  obtain ⟨_,rfl⟩:=h
  exact snd_of (n:=1) (tell0_ok _) (noTL_ok _ _) eLv
 ·simp at h
def bump (z:Rdr):Rdr:={ z with a:=IntKind.i64.wrap (z.a+1) }
def tokZ (z:Rdr):TokR:=tokA z.l z.a
def nxZ (z:Rdr) (s:Str):Bool:=isA z.l z.a z.c s
def wdB (z:Rdr) (s:Str):Bool:=bif (bif z.c==0 then (tokZ z).kind==1 else false) then (tokZ z).s==s else false
def failC (z:Rdr) (c:Int) (p:PosR):Rdr:=bif z.c==0 then { z with c:=c,p:=p } else z
def failZ (z:Rdr) (p:PosR):Rdr:=failC z 4 p
def mustZ (z:Rdr) (s:Str):Rdr:=bif nxZ z s then bump z else failZ z (tokZ z).p
def kwZ (z:Rdr) (s:Str):Rdr:=bif wdB z s then bump z else failZ z (tokZ z).p
def noName (t:TokR):Bool:=bif t.kind != 1 then true else resV t.s
def nm1 (z:Rdr):Rdr:=bif noName (tokZ z) then failZ z (tokZ z).p else z
def nmS (z:Rdr):Str:=bif (nm1 z).c==0 then (tokZ z).s else []
def nmZ (z:Rdr):Rdr:=bif (nm1 z).c==0 then bump (nm1 z) else nm1 z
theorem eWd (z:Rdr) (s:Str):ev tell0 noTL 3 73 [.ref (cRdr z),.str s] =
  bif outA z.l z.a then some (.bool (bif (bif z.c==0 then (0:Int)==1 else false) then ([]:Str)==s else false)) else
   ck_ ((decide (0≤z.a)&&decide (z.a < (z.l.length:Int)))||false) (some (.bool (bif (bif z.c==0 then (z.l.getD z.a.toNat default).kind==1 else false) then (z.l.getD z.a.toNat default).s==s else false))):=by kernel_rfl
theorem wd_sound (z:Rdr) (s:Str):Snd 73 [.ref (cRdr z),.str s] (.bool (wdB z s)):=by
 refine snd_of (n:=3) (tell0_ok _) (noTL_ok _ _) ((eWd z s).trans ?_)
 unfold wdB tokZ tokA
 cases h:outA z.l z.a with
 | true=>rfl
 | false =>
  obtain ⟨h1,h2⟩:=outA_f h
  rw [cond_false,ck_t (by rw [decide_eq_true h1,decide_eq_true h2];rfl)]
  rfl
def pWd:List (D Pl)→Option (Bool×D Pl)
 | [.ref [.pl ⟨.toks,l⟩ .any,.int .i64 a,.int .i64 c,.int .i64 x,.int .i64 y,.int .i64 w,.str []],.str s]=>some (true,.bool (wdB ⟨l,a,c,⟨x,y,w⟩⟩ s))
 | _=>none
theorem pWd_ok:∀ds b d,pWd ds=some (b,d)→b=true→Snd 73 ds d:=by
 intro ds b d h _
 unfold pWd at h
 split at h
 ·simp only [Option.some.injEq,Prod.mk.injEq] at h
  obtain ⟨_,rfl⟩:=h
  exact wd_sound ⟨_,_,_,⟨_,_,_⟩⟩ _
 ·simp at h
def tR (R:Eng.Told Pl):Eng.Told Pl:=tellM 12 (pR pTok) (tell 13 pOk (tell 20 pIs (tell 73 pWd R)))
theorem tR_ok {R:Eng.Told Pl} (h:TOk R):TOk (tR R):=tellM_ok (pR_ok pTok_ok) (tell_ok pOk_ok (tell_ok pIs_ok (tell_ok pWd_ok h)))
def envU (z:Rdr):Option (D Pl):=some (.env (encR z) (.tup []))
theorem eFail (z:Rdr) (c:Int) (p:PosR):evM (tR tell0) noTL noL 2 Tryz.f14 (decH (encR z)) [.ptr 50000 0,dI c,.agg (Mv.cP3 p)]=bif z.c==0 then envU { z with c:=c,p:=p } else envU z:=by kernel_rfl
theorem fail_sound (z:Rdr) (c:Int) (p:PosR):SndR 14 z [dI c,.agg (Mv.cP3 p)] (.tup []) (failC z c p) :=
 snd_m (n:=2) (tR_ok (tell0_ok _)) (noTL_ok _ _) (fn:=Tryz.f14) (by kernel_rfl) (loops_of (f:=14) (fn:=Tryz.f14) (by kernel_rfl) (loops_0 (by kernel_rfl))) ((eFail z c p).trans (by
  unfold failC envU
  cases z.c==0<;>rfl))
def pFail (z:Rdr):List (D Pl)→Option (Bool×D Pl×Rdr)
 | [.int .i64 c,.agg [.int .i64 x,.int .i64 y,.int .i64 w]]=>some (true,.tup [],failC z c ⟨x,y,w⟩)
 | _=>none
theorem pFail_ok:∀z args c d z',pFail z args=some (c,d,z')→c=true→SndR 14 z args d z':=by
 intro z args c d z' h _
 unfold pFail at h
 split at h
 ·simp only [Option.some.injEq,Prod.mk.injEq] at h
  obtain ⟨_,rfl,rfl⟩:=h
  exact fail_sound _ _ ⟨_,_,_⟩
 ·simp at h
def tF (R:Eng.Told Pl):Eng.Told Pl:=tR (tellM 14 (pR pFail) R)
theorem tF_ok {R:Eng.Told Pl} (h:TOk R):TOk (tF R):=tR_ok (tellM_ok (pR_ok pFail_ok) h)
theorem eMust (z:Rdr) (s:Str):evM (tF tell0) noTL noL 3 Tryz.f21 (decH (encR z)) [.ptr 50000 0,.str s]=bif !(nxZ z s) then envU (failZ z (tokZ z).p) else envU (bump z):=by kernel_rfl
theorem must_sound (z:Rdr) (s:Str):SndR 21 z [.str s] (.tup []) (mustZ z s) :=
 snd_m (n:=3) (tF_ok (tell0_ok _)) (noTL_ok _ _) (fn:=Tryz.f21) (by kernel_rfl) (loops_of (f:=21) (fn:=Tryz.f21) (by kernel_rfl) (loops_0 (by kernel_rfl))) ((eMust z s).trans (by
  unfold mustZ envU
  cases nxZ z s<;>rfl))
theorem eKw (z:Rdr) (s:Str):evM (tF tell0) noTL noL 3 Tryz.f87 (decH (encR z)) [.ptr 50000 0,.str s]=bif !(wdB z s) then envU (failZ z (tokZ z).p) else envU (bump z):=by kernel_rfl
theorem kw_sound (z:Rdr) (s:Str):SndR 87 z [.str s] (.tup []) (kwZ z s) :=
 snd_m (n:=3) (tF_ok (tell0_ok _)) (noTL_ok _ _) (fn:=Tryz.f87) (by kernel_rfl) (loops_of (f:=87) (fn:=Tryz.f87) (by kernel_rfl) (loops_0 (by kernel_rfl))) ((eKw z s).trans (by
  unfold kwZ envU
  cases wdB z s<;>rfl))
def pStrZ (f:Rdr→Str→Rdr) (z:Rdr):List (D Pl)→Option (Bool×D Pl×Rdr)
 | [.str s]=>some (true,.tup [],f z s)
 | _=>none
theorem pStrZ_ok {g:FuncId} {f:Rdr→Str→Rdr} (hf:∀z s,SndR g z [.str s] (.tup []) (f z s)):∀z args c d z',pStrZ f z args=some (c,d,z')→c=true→SndR g z args d z':=by
 intro z args c d z' h _
 unfold pStrZ at h
 split at h
 ·simp only [Option.some.injEq,Prod.mk.injEq] at h
  obtain ⟨_,rfl,rfl⟩:=h
  exact hf _ _
 ·simp at h
def pStrR (f:Str→Bool):List (D Pl)→Option (Bool×D Pl)
 | [.str s]=>some (true,.bool (f s))
 | _=>none
theorem pStrR_ok {g:FuncId} {f:Str→Bool} (hf:∀s,Snd g [.str s] (.bool (f s))):∀ds b d,pStrR f ds=some (b,d)→b=true→Snd g ds d:=by
 intro ds b d h hb
 unfold pStrR at h
 split at h
 ·simp only [Option.some.injEq,Prod.mk.injEq] at h;obtain ⟨_,rfl⟩:=h;exact hf _
 ·simp at h
def tK (R:Eng.Told Pl):Eng.Told Pl:=tF (tellM 21 (pR (pStrZ mustZ)) (tellM 87 (pR (pStrZ kwZ)) (tell 70 (pStrR resV) R)))
theorem tK_ok {R:Eng.Told Pl} (h:TOk R):TOk (tK R):=tF_ok (tellM_ok (pR_ok (pStrZ_ok must_sound)) (tellM_ok (pR_ok (pStrZ_ok kw_sound)) (tell_ok (pStrR_ok resv_sound) h)))
end Go.Proofs.YtcgbgcconigdbaaGreatDoor.Rd
namespace Go.Proofs.YtcgbgcconigdbaaGreatDoor.Rd
open Go.Eng
set_option maxRecDepth 100000
def p00:PosR:=⟨0,0,0⟩
def v00:Val:=⟨0,0,[],[],[],0,0,false⟩
def e00:ExprR:=⟨0,[],[],v00,[],p00⟩
def z00:Rdr:=⟨[],0,0,p00⟩
def ndE (op:Int) (s s2:Str) (l:List ExprR):ExprR:=⟨op,s,s2,v00,l,p00⟩
def ltE (k i:Int) (s:Str):ExprR:=⟨1,[],[],⟨k,i,s,[],[],0,0,false⟩,[],p00⟩
def nP (e:ExprR):ExprR:=⟨e.op,e.s,e.s2,⟨e.v.kind,e.v.i,e.v.s,e.v.l,e.v.keys,e.v.tk,e.v.tof,e.v.sec⟩,e.l,p00⟩
abbrev Got:=Option (ExprR×Rdr)
abbrev GotL:=Option (List ExprR×Rdr)
def thenG {γ δ:Type} (r:Option (γ×Rdr)) (k:γ→Rdr→Option δ):Option δ:=match r with
 | some (e,z)=>k e z
 | none=>none
section
variable (P:Nat→Rdr→Got) (TZ:Rdr→Got)
def itemP (z:Rdr):GotL:=thenG (P 0 z) fun e z'=>some ([nP e],z')
def keyP (z:Rdr):Got :=
 bif (tokZ z).kind==1 then some (ltE 3 0 (tokZ z).s,bump z) else bif (tokZ z).kind==3 then TZ z else some (e00,failZ z (tokZ z).p)
def pairP (z:Rdr):GotL:=thenG (keyP TZ z) fun k z1=>thenG (P 0 (bif nxZ z1 [61] then bump z1 else mustZ z1 [58])) fun e z2=>some ([nP k,nP e],z2)
def listL (one:Rdr→GotL) (e:Str):Nat→List ExprR→Rdr→GotL
 | 0,_,_=>none
 | m+1,out,z=>bif (bif z.c==0 then !(nxZ z e) else false) then thenG (one z) fun l z'=>bif nxZ z' [44] then listL one e m (out++l) (bump z') else some (out++l,z') else some (out,z)
def listP (one:Rdr→GotL) (m:Nat) (e:Str) (z:Rdr):GotL:=thenG (listL one e m [] z) fun l z'=>some (l,mustZ z' e)
def headP (z:Rdr) (K:Str→Str→List ExprR→Rdr→Got):Got :=
 let z1:=kwZ z [102,111,114]
 let n1:=nmS z1
 let z2:=nmZ z1
 let rest:=fun (s s2:Str) (z3:Rdr)=>thenG (P 0 (kwZ z3 [105,110])) fun x z4=>K s s2 [nP x] (mustZ z4 [58])
 bif nxZ z2 [44] then rest (nmS (bump z2)) n1 (nmZ (bump z2)) else rest n1 [] z2
def filtP (e:Str) (s s2:Str) (op:Int) (l:List ExprR) (z:Rdr):Got :=
 bif wdB z [105,102] then thenG (P 0 (bump z)) fun c z'=>some (ndE op s s2 (l++[nP c]),mustZ z' e) else some (ndE op s s2 l,mustZ z e)
def brackP (m:Nat) (z:Rdr):Got :=
 bif !(wdB z [102,111,114]) then thenG (listP (itemP P) m [93] z) fun l z'=>some (ndE 22 [] [] l,z')
 else headP P z fun s s2 l z1=>thenG (P 0 z1) fun y z2=>filtP P [93] s s2 24 (l++[nP y]) z2
def aheadB (z:Rdr):Bool:=bif wdB z [102,111,114] then (bif !(isA z.l (IntKind.i64.wrap (z.a+1)) 0 [61]) then !(isA z.l (IntKind.i64.wrap (z.a+1)) 0 [58]) else false) else false
def braceP (m:Nat) (z:Rdr):Got :=
 bif !(aheadB z) then thenG (listP (pairP P TZ) m [125] z) fun l z'=>some (ndE 23 [] [] l,z')
 else headP P z fun s s2 l z1=>thenG (P 0 z1) fun y z2=>thenG (P 0 (mustZ z2 [61,62])) fun x z3=>filtP P [125] s s2 25 ((l++[nP y])++[nP x]) z3
def namedP (m:Nat) (z:Rdr) (t:TokR):Got :=
 bif t.s==[116,114,117,101] then some (ltE 1 1 [],bump z) else bif t.s==[102,97,108,115,101] then some (ltE 1 0 [],bump z)
 else bif t.s==[110,117,108,108] then some (ltE 0 0 [],bump z)
 else
  let z1:=bif resV t.s then failZ (bump z) t.p else bump z
  bif nxZ z1 [40] then thenG (listP (itemP P) m [41] (bump z1)) fun l z'=>some (ndE 5 t.s [] l,z') else some (ndE 2 t.s [] [],z1)
def firstP (m:Nat) (z:Rdr):Got :=
 bif !(z.c==0) then some (e00,z)
 else bif (tokZ z).kind==2 then some (ltE 2 (tokZ z).n [],bump z)
 else bif (tokZ z).kind==3 then TZ z
 else bif (tokZ z).kind==1 then namedP P m z (tokZ z)
 else bif nxZ z [40] then thenG (P 0 (bump z)) fun e z'=>some (nP e,mustZ z' [41])
 else bif nxZ z [91] then brackP P m (bump z)
 else bif nxZ z [123] then braceP P TZ m (bump z)
 else some (e00,failZ z (tokZ z).p)
def postL:Nat→ExprR→Rdr→Got
  | 0,_,_=>none
  | m+1,e,z=>bif z.c==0 then (bif nxZ z [46] then
        (let z1:=bump z
         let n:=tokZ z1
         postL m (ndE 3 n.s [] [nP e]) (bump (bif n.kind != 1 then failZ z1 n.p else z1)))
      else bif nxZ z [91] then thenG (P 0 (bump z)) fun x z'=>postL m (ndE 4 [] [] [nP e,nP x]) (mustZ z' [93]) else some (e,z))
    else some (e,z)
def postP (m:Nat) (z:Rdr):Got:=thenG (firstP P TZ m z) fun e z'=>postL P m (nP e) z'
def unaryP (z:Rdr):Got :=
 bif nxZ z [33] then thenG (P 6 (bump z)) fun x z'=>some (ndE 6 [] [] [nP x],z')
 else bif nxZ z [45] then thenG (P 6 (bump z)) fun x z'=>some (ndE 7 [] [] [nP x],z')
 else P 7 z
def goLv (lvl:Nat) (z:Rdr):Bool:=z.c==0&&((tokZ z).kind==4&&hasM (k:=.str) (v:=.int) (lvOps lvl) (tokZ z).s)
def moreE (lvl:Nat) (e x:ExprR) (z:Rdr):ExprR:=ndE (getM (k:=.str) (v:=.int) (lvOps lvl) (tokZ z).s) [] [] [nP e,nP x]
def loopG (lvl:Nat):Nat→ExprR→Rdr→Got
 | 0,_,_=>none
 | m+1,e,z=>bif goLv lvl z then thenG (P (lvl+2) (bump z)) fun x z'=>bif Nat.beq lvl 2 then some (moreE lvl e x z,z') else loopG lvl m (moreE lvl e x z) z'
  else some (e,z)
def exprP (z:Rdr):Got:=thenG (P 1 z) fun e z1=>bif nxZ z1 [63] then thenG (P 0 (bump z1)) fun a z2=>thenG (P 0 (mustZ z2 [58])) fun b z3=>some (ndE 21 [] [] [nP e,nP a,nP b],z3) else some (e,z1)
end
def readP (TZ:Rdr→Got):Nat→Nat→Rdr→Got
 | 0,_,z=>bif !(z.c==0) then some (e00,z) else none
 | n+1,0,z=>bif !(z.c==0) then some (e00,z) else exprP (readP TZ n) z
 | n+1,6,z=>bif !(z.c==0) then some (e00,z) else unaryP (readP TZ n) z
 | n+1,7,z=>bif !(z.c==0) then some (e00,z) else postP (readP TZ n) TZ n z
 | n+1,k+1,z=>bif !(z.c==0) then some (e00,z) else thenG (readP TZ n (k+2) z) fun e z'=>loopG (readP TZ n) k n (nP e) z'
end Go.Proofs.YtcgbgcconigdbaaGreatDoor.Rd
namespace Go.Proofs.YtcgbgcconigdbaaGreatDoor.Rd
open Go.Eng
set_option maxRecDepth 100000
def okG {γ:Type} (r:Option (γ×Rdr)):Bool:=match r with
 | some _=>true
 | none=>false
def exG (r:Got):ExprR:=(r.getD (e00,z00)).1
def rdG (r:Got):Rdr:=(r.getD (e00,z00)).2
def exL (r:GotL):List ExprR:=(r.getD ([],z00)).1
def rdL (r:GotL):Rdr:=(r.getD ([],z00)).2
theorem okG_some {r:Got} (h:okG r=true):r=some (exG r,rdG r):=by
 cases r with
 | none=>simp [okG] at h
 | some x=>rfl
theorem okL_some {r:GotL} (h:okG r=true):r=some (exL r,rdL r):=by
 cases r with
 | none=>simp [okG] at h
 | some x=>rfl
def asN:D Pl→Option ExprR
 | .agg cs=>Go.Eng.decN .exprs cs
 | _=>none
theorem all2_rdles {cs ds:List (D Pl)} (h:All2 X0.C cs ds):RDles X0.C cs ds:=by
 induction h with
 | nil=>exact .nil
 | cons h _ ih=>exact .cons (RDle.of h) ih
theorem asN_rdle {d:D Pl} {e:ExprR} (h:asN d=some e):RDle X0.C d (.agg (cExN e)):=by
 unfold asN at h
 split at h
 ·exact RDle.agg (all2_rdles (decN_all (C:=X0.C) (fun _=>rfl) (t:=.exprs) h))
 ·cases h
structure Deep (P:Nat→Rdr→Got):Prop where
 ex:∀z e z',P 0 z=some (e,z')→SndR 11 z [] (.agg (cExN e)) z'
 bi:∀(k:Nat) z e z',k≤5→P (k+1) z=some (e,z')→SndR 19 z [dI k] (.agg (cExN e)) z'
 un:∀z e z',P 6 z=some (e,z')→SndR 30 z [] (.agg (cExN e)) z'
 po:∀z e z',P 7 z=some (e,z')→SndR 39 z [] (.agg (cExN e)) z'
def TxOk (TZ:Rdr→Got):Prop:=∀z e z',z.c=0→TZ z=some (e,z')→SndR 53 z [] (.agg (cExN e)) z'
def pG (P:Nat→Rdr→Got) (k:Nat) (z:Rdr):List (D Pl)→Option (Bool×D Pl×Rdr)
 | []=>some (okG (P k z),.agg (cExN (exG (P k z))),rdG (P k z))
 | _=>none
def pGb (P:Nat→Rdr→Got) (z:Rdr):List (D Pl)→Option (Bool×D Pl×Rdr)
 | [.int .i64 (.ofNat k)]=>some (Nat.ble k 5&&okG (P (k+1) z),.agg (cExN (exG (P (k+1) z))),rdG (P (k+1) z))
 | _=>none
def pTx (TZ:Rdr→Got) (z:Rdr):List (D Pl)→Option (Bool×D Pl×Rdr)
 | []=>some (okG (TZ z)&&z.c==0,.agg (cExN (exG (TZ z))),rdG (TZ z))
 | _=>none
theorem pG_ok {P:Nat→Rdr→Got} {k:Nat} {g:FuncId} (hg:∀z e z',P k z=some (e,z')→SndR g z [] (.agg (cExN e)) z'):∀z args c d z',pG P k z args=some (c,d,z')→c=true→SndR g z args d z':=by
 intro z args c d z' h hc
 unfold pG at h
 split at h
 ·simp only [Option.some.injEq,Prod.mk.injEq] at h
  obtain ⟨h1,rfl,rfl⟩:=h
  exact hg _ _ _ (okG_some (h1.trans hc))
 ·simp at h
theorem pGb_ok {P:Nat→Rdr→Got} (hg:Deep P):∀z args c d z',pGb P z args=some (c,d,z')→c=true→SndR 19 z args d z':=by
 intro z args c d z' h hc
 unfold pGb at h
 split at h
 ·simp only [Option.some.injEq,Prod.mk.injEq] at h
  obtain ⟨h1,rfl,rfl⟩:=h
  rw [←h1,Bool.and_eq_true] at hc
  exact hg.bi _ _ _ _ (Nat.le_of_ble_eq_true hc.1) (okG_some hc.2)
 ·simp at h
theorem pTx_ok {TZ:Rdr→Got} (hg:TxOk TZ):∀z args c d z',pTx TZ z args=some (c,d,z')→c=true→SndR 53 z args d z':=by
 intro z args c d z' h hc
 unfold pTx at h
 split at h
 ·simp only [Option.some.injEq,Prod.mk.injEq] at h
  obtain ⟨h1,rfl,rfl⟩:=h
  rw [←h1,Bool.and_eq_true] at hc
  exact hg _ _ _ (beq_iff_eq.1 hc.2) (okG_some hc.1)
 ·simp at h
def envS (z:Rdr) (s:Str):Option (D Pl):=some (.env (encR z) (.str s))
def orF {β:Type} (x y:Bool) (A B:Option β):Option β:=bif (x==false) then (bif y then A else B) else A
def finN (t:TokR) (z:Rdr):Option (D Pl):=bif !(z.c==0) then envS z [] else envS (bump z) t.s
theorem eName (z:Rdr):evM (tK tell0) noTL noL 3 Tryz.f88 (decH (encR z)) [.ptr 50000 0]=orF ((tokZ z).kind != 1) (resV (tokZ z).s) (finN (tokZ z) (failZ z (tokZ z).p)) (finN (tokZ z) z):=by kernel_rfl
theorem name_sound (z:Rdr):SndR 88 z [] (.str (nmS z)) (nmZ z) :=
 snd_m (n:=3) (tK_ok (tell0_ok _)) (noTL_ok _ _) (fn:=Tryz.f88) (by kernel_rfl) (loops_of (f:=88) (fn:=Tryz.f88) (by kernel_rfl) (loops_0 (by kernel_rfl))) ((eName z).trans (by
  have h:orF ((tokZ z).kind != 1) (resV (tokZ z).s) (finN (tokZ z) (failZ z (tokZ z).p)) (finN (tokZ z) z)=finN (tokZ z) (nm1 z):=by
   unfold orF nm1 noName
   cases (tokZ z).kind != 1<;>cases resV (tokZ z).s<;>rfl
  rw [h]
  unfold finN envS nmS nmZ
  cases (nm1 z).c==0<;>rfl))
def pNm (z:Rdr):List (D Pl)→Option (Bool×D Pl×Rdr)
 | []=>some (true,.str (nmS z),nmZ z)
 | _=>none
theorem pNm_ok:∀z args c d z',pNm z args=some (c,d,z')→c=true→SndR 88 z args d z':=by
 intro z args c d z' h _
 unfold pNm at h
 split at h
 ·simp only [Option.some.injEq,Prod.mk.injEq] at h
  obtain ⟨_,rfl,rfl⟩:=h
  exact name_sound _
 ·simp at h
def tP (P:Nat→Rdr→Got) (TZ:Rdr→Got) (R:Eng.Told Pl):Eng.Told Pl:=tK (tell 29 pLv (tellM 88 (pR pNm) (tellM 11 (pR (pG P 0)) (tellM 19 (pR (pGb P)) (tellM 30 (pR (pG P 6)) (tellM 39 (pR (pG P 7))
 (tellM 53 (pR (pTx TZ)) R)))))))
theorem tP_ok {P:Nat→Rdr→Got} {TZ:Rdr→Got} (hP:Deep P) (hT:TxOk TZ) {R:Eng.Told Pl} (h:TOk R):TOk (tP P TZ R):=tK_ok (tell_ok pLv_ok (tellM_ok (pR_ok pNm_ok) (tellM_ok (pR_ok (pG_ok hP.ex)) (tellM_ok (pR_ok (pGb_ok hP)) (tellM_ok (pR_ok (pG_ok hP.un)) (tellM_ok (pR_ok (pG_ok hP.po))
 (tellM_ok (pR_ok (pTx_ok hT)) h)))))))
def ckG (r:Got) (k:ExprR→Rdr→Option (D Pl)):Option (D Pl):=ck_ (okG r) (k (exG r) (rdG r))
def ckL (r:GotL) (k:List ExprR→Rdr→Option (D Pl)):Option (D Pl):=ck_ (okG r) (k (exL r) (rdL r))
theorem ckG_eq (r:Got) (k:ExprR→Rdr→Option (D Pl)):ckG r k=thenG r k:=by
 cases r with
 | none=>rfl
 | some x=>rfl
theorem ckL_eq (r:GotL) (k:List ExprR→Rdr→Option (D Pl)):ckL r k=thenG r k:=by
 cases r with
 | none=>rfl
 | some x=>rfl
def cEq (op:Int) (s s2:Str) (vk vi:Int) (vs:Str) (l:D Pl) (p:PosR):List (D Pl):=[dI op,.str s,.str s2,dI vk,dI vi,.str vs,.nilS,.nilS,dI 0,dI 0,.bool false,l,dI p.at',dI p.line,dI p.col]
def env (z:Rdr) (cs:List (D Pl)):Option (D Pl):=some (.env (encR z) (.agg cs))
def envL (z:Rdr) (l:List ExprR) (k:SK):Option (D Pl):=some (.env (encR z) (.pl (pExprs l) k))
theorem eItem (P:Nat→Rdr→Got) (TZ:Rdr→Got) (z:Rdr):evM (tP P TZ tell0) noTL noL 4 Tryz.f72 (decH (encR z)) [.ptr 50000 0]=ckG (P 0 z) fun e z'=>envL z' [nP e] .full:=by kernel_rfl
def pairK (P:Nat→Rdr→Got) (k:ExprR) (z1:Rdr):Option (D Pl) :=
 bif !(nxZ z1 [61]) then ckG (P 0 (mustZ z1 [58])) fun e z2=>envL z2 [nP k,nP e] .full else ckG (P 0 (bump z1)) fun e z2=>envL z2 [nP k,nP e] .full
theorem ePair (P:Nat→Rdr→Got) (TZ:Rdr→Got) (z:Rdr):evM (tP P TZ tell0) noTL noL 4 Tryz.f77 (decH (encR z)) [.ptr 50000 0] =
  bif (tokZ z).kind==1 then pairK P (ltE 3 0 (tokZ z).s) (bump z) else bif (tokZ z).kind==3 then ck_ (okG (TZ z)&&z.c==0) (pairK P (exG (TZ z)) (rdG (TZ z))) else pairK P e00 (failZ z (tokZ z).p):=by kernel_rfl
end Go.Proofs.YtcgbgcconigdbaaGreatDoor.Rd
