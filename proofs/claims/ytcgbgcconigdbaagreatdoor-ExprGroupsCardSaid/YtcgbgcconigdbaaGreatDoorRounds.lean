/-
 THE SCANNER TELLS WHAT IS WRONG, once.
-/
import Derived.Test.YtcgbgcconigdbaaGreatDoorStep
import Derived.Lib.Bytealg
namespace Go.Proofs.YtcgbgcconigdbaaGreatDoor
open Go.Eng
set_option maxRecDepth 100000
structure Scn where
 s:Str
 p:Nat
 toks:List TokR
 bad:Int
 bp:PosR
def cF:Int:=576460745860972544
def cN:Int:=287948901175001088
def tailD (tk:D Pl) (bad:Int) (bp:PosR):List (D Pl):=[.int .u64 0,.int .u64 576460745860972544,.int .u64 287948901175001088,.int .u64 576460745860972544,.int .u64 287948901175001088,.int .u64 0,tk,dI bad,dI bp.at',dI bp.line,dI bp.col,.str []]
def encS (z:Scn):List (D Pl):=match z.toks with
 | []=>[.obB 50000 (bxc z.s z.p (ln z.s z.p) (sn z.s z.p) (tailD .nilS z.bad z.bp))]
 | t::l=>[.obB 50000 (bxc z.s z.p (ln z.s z.p) (sn z.s z.p) (tailD (.arr 100010) z.bad z.bp)),.obA 100010 ⟨.toks,t::l⟩]
def decS:List (D Pl)→Option (Bool×Scn)
 | [.obB 50000 (.str s::.int .i64 (.ofNat p)::.int .i64 l::.int .i64 t::[.int .u64 (.ofNat 0),.int .u64 a,.int .u64 b,.int .u64 c,.int .u64 d,.int .u64 (.ofNat 0),.nilS,.int .i64 bad,.int .i64 ba,.int .i64 bl,.int .i64 bc,.str []])] =>
  some ((l==ln s p&&t==sn s p)&&((a==cF&&b==cN)&&(c==cF&&d==cN)),⟨s,p,[],bad,⟨ba,bl,bc⟩⟩)
 | [.obB 50000 (.str s::.int .i64 (.ofNat p)::.int .i64 l::.int .i64 t::[.int .u64 (.ofNat 0),.int .u64 a,.int .u64 b,.int .u64 c,.int .u64 d,.int .u64 (.ofNat 0),.arr 100010,.int .i64 bad,.int .i64 ba,.int .i64 bl,.int .i64 bc,.str []]),.obA 100010 ⟨.toks,x::r⟩] =>
  some ((l==ln s p&&t==sn s p)&&((a==cF&&b==cN)&&(c==cF&&d==cN)),⟨s,p,x::r,bad,⟨ba,bl,bc⟩⟩)
 | _=>none
theorem decS_enc {os:List (D Pl)} {b:Bool} {z:Scn} (h:decS os=some (b,z)) (hb:b=true):os=encS z:=by
 unfold decS at h
 split at h
 ·simp only [Option.some.injEq,Prod.mk.injEq] at h
  obtain ⟨rfl,rfl⟩:=h
  simp only [Bool.and_eq_true,beq_iff_eq] at hb
  obtain ⟨⟨rfl,rfl⟩,⟨rfl,rfl⟩,rfl,rfl⟩:=hb
  rfl
 ·simp only [Option.some.injEq,Prod.mk.injEq] at h
  obtain ⟨rfl,rfl⟩:=h
  simp only [Bool.and_eq_true,beq_iff_eq] at hb
  obtain ⟨⟨rfl,rfl⟩,⟨rfl,rfl⟩,rfl,rfl⟩:=hb
  rfl
 ·simp at h
def pM (f:Scn→List (D Pl)→Option (Bool×D Pl×Scn)):List (D Pl)→List (D Pl)→Option (Bool×D Pl×List (D Pl)):=fun os ds=>match os with
 | o::r=>match decS (o::r) with
  | some (b,z)=>(match ds with
   | .ptr 50000 0::args=>(match f z args with
    | some (c,d,z')=>some (b&&c,d,encS z')
    | none=>none)
   | _=>none)
  | none=>none
 | _=>none
abbrev SndS (g:FuncId) (z:Scn) (args:List (D Pl)) (d:D Pl) (z':Scn):Prop:=SndM g (decH (encS z)) (.ptr 50000 0::args) d (decH (encS z'))
theorem pM_ok {g:FuncId} {f:Scn→List (D Pl)→Option (Bool×D Pl×Scn)} (hf:∀z args c d z',f z args=some (c,d,z')→c=true→SndS g z args d z'):∀os ds b d os',pM f os ds=some (b,d,os')→b=true→SndM g (decH os) ds d (decH os'):=by
 intro os ds b d os' h hb
 unfold pM at h
 split at h
 ·split at h
  ·rename_i b0 z hz
   split at h
   ·split at h
    ·rename_i c d0 z' hfz
     simp only [Option.some.injEq,Prod.mk.injEq] at h
     obtain ⟨rfl,rfl,rfl⟩:=h
     simp only [Bool.and_eq_true] at hb
     rw [decS_enc hz hb.1]
     exact hf _ _ _ _ _ hfz hb.2
    ·simp at h
   ·simp at h
  ·simp at h
 ·simp at h
def s18q (s:Str) (p:Nat) (l t n:Int) (i:Int) (r:List (D Pl)) (q:Obs Pl):St Pl:=mkS 40 [(0,.ptr 50000 0),(4,dI n),(5,dI i)] ((50000,.box false (bxc s p l t r))::q)
def r18q (s:Str) (p:Nat) (l t:Int) (r:List (D Pl)) (q:Obs Pl):St Pl:=mkS 40 [(0,.ptr 50000 0)] ((50000,.box false (bxc s p l t r))::q)
def s18v (s:Str) (p:Int) (l t n:Int) (i:Int) (r:List (D Pl)) (q:Obs Pl):St Pl:=mkS 40 [(0,.ptr 50000 0),(4,dI n),(5,dI i)] ((50000,.box false (.str s::dI p::dI l::dI t::r))::q)
theorem b18q (s:Str) (p:Nat) (l t n:Int) (i:Nat) (r:List (D Pl)) (q:Obs Pl):evC tell0 noTL noL 1 (loopAt 22 0) [0,4,5] (s18q s p l t n i r q) =
  bif decide ((i:Int) < n) then ix_ p s.length (bif byt s p==10 then some (.normal,s18v s (w64 ((p:Int)+1)) (w64 (l+1)) (w64 ((p:Int)+1)) n (w64 ((i:Int)+1)) r q) else some (.normal,s18v s (w64 ((p:Int)+1)) l t n (w64 ((i:Int)+1)) r q))
   else some (.exit 0,s18q s p l t n i r q):=by kernel_rfl
theorem go18q (s:Str) (p n:Nat) (r:List (D Pl)) (q:Obs Pl) (hp:p+n≤s.length) (hl:s.length≤big) :
  Goes X0 (.loop (loopAt 22 0)) (s18q s p (ln s p) (sn s p) n 0 r q) (pickR (.leaf (.exit 0) (r18q s (p+n) (ln s (p+n)) (sn s (p+n)) r q))).1 (pickR (.leaf (.exit 0) (r18q s (p+n) (ln s (p+n)) (sn s (p+n)) r q))).2:=by
 have hbig:big=140737488355328:=rfl
 refine loop_all (Sf:=fun i=>s18q s (p+i) (ln s (p+i)) (sn s (p+i)) n i r q) (n:=n) (by simp) (fun i hi=>?_) ?_
 ·refine goes_of (tell0_ok _) (noTL_ok _ _) (noLoops ids18.2.2) ((b18q s (p+i) _ _ n i r q).trans ?_)
  have h1:=ln_in s (p+i)
  rw [decide_eq_true (show (i:Int) < (n:Int) by omega),cond_true,ix_t (show p+i < s.length by omega)]
  have e1:w64 (((p+i:Nat):Int)+1)=((p+(i+1):Nat):Int):=wrap_nat (by omega)
  have e2:w64 ((i:Int)+1)=((i+1:Nat):Int):=wrap_nat (by omega)
  have e3:w64 (ln s (p+i)+1)=ln s (p+i)+1:=wrap_in _ (by omega)
  rw [e1,e2,e3]
  show _=some (Ex.normal,s18q s (p+(i+1)) (ln s (p+i+1)) (sn s (p+i+1)) n ((i+1:Nat):Int) r q)
  simp only [ln,sn]
  cases byt s (p+i)==10<;>rfl
 ·have:=(goes_of (tell0_ok _) (noTL_ok _ _) (noLoops ids18.2.2) ((b18q s (p+n) (ln s (p+n)) (sn s (p+n)) n n r q).trans (by rw [decide_eq_false (by omega)];rfl))).post (keepOf [0])
  exact this
def LS18q (S:St Pl):Option (Bool×LR Pl):=match seenS 40 [0,4,5] S with
 | some ([.ptr 50000 0,.int .i64 n,.int .i64 (.ofNat 0)],(50000,.box false (.str s::.int .i64 (.ofNat p)::.int .i64 l::.int .i64 t::r))::q) =>
  some (decide (0≤n)&&(l==ln s p&&(t==sn s p&&(Nat.ble (p+n.toNat) s.length&&Nat.ble s.length big))),.leaf (.exit 0) (r18q s (p+n.toNat) (ln s (p+n.toNat)) (sn s (p+n.toNat)) r q))
 | _=>none
theorem LS18q_ok:SOk X0 (loopAt 22 0) LS18q:=by
 intro S b r h hb
 unfold LS18q at h
 split at h
 ·rename_i n s p l t r' q hs
  simp only [Option.some.injEq,Prod.mk.injEq] at h
  obtain ⟨rfl,rfl⟩:=h
  simp only [Bool.and_eq_true,Nat.ble_eq,beq_iff_eq,decide_eq_true_eq] at hb
  obtain ⟨h0,rfl,rfl,h1,h2⟩:=hb
  obtain ⟨n,rfl⟩:=Int.eq_ofNat_of_zero_le h0
  refine Goes.pre (keepOf [0,4,5]) ?_
  rw [seenS_mask hs]
  exact go18q s p n r' q h1 h2
 ·simp at h
def Scn.go (z:Scn) (p:Nat):Scn:={ z with p:=p }
def stepOk (z:Scn) (n:Int):Bool:=decide (0≤n)&&(Nat.ble (z.p+n.toNat) z.s.length&&Nat.ble z.s.length big)
theorem e18n (s:Str) (p:Nat) (bad:Int) (bp:PosR) (n:Int):evM tell0 noTL (atL 1 LS18q noL) 1 Tryz.f22 (decH (encS ⟨s,p,[],bad,bp⟩)) [.ptr 50000 0,dI n] =
  ck_ (decide (0≤n)&&(ln s p==ln s p&&(sn s p==sn s p&&(Nat.ble (p+n.toNat) s.length&&Nat.ble s.length big)))) (some (.env (encS ⟨s,p+n.toNat,[],bad,bp⟩) (.tup []))):=by kernel_rfl
theorem e18c (s:Str) (p:Nat) (t:TokR) (l:List TokR) (bad:Int) (bp:PosR) (n:Int):evM tell0 noTL (atL 1 LS18q noL) 1 Tryz.f22 (decH (encS ⟨s,p,t::l,bad,bp⟩)) [.ptr 50000 0,dI n] =
  ck_ (decide (0≤n)&&(ln s p==ln s p&&(sn s p==sn s p&&(Nat.ble (p+n.toNat) s.length&&Nat.ble s.length big)))) (some (.env (encS ⟨s,p+n.toNat,t::l,bad,bp⟩) (.tup []))):=by kernel_rfl
theorem steps (z:Scn) (n:Int) (h:stepOk z n=true):SndS 22 z [dI n] (.tup []) (z.go (z.p+n.toNat)):=by
 simp only [stepOk,Bool.and_eq_true,Nat.ble_eq,decide_eq_true_eq] at h
 obtain ⟨h0,h1,h2⟩:=h
 obtain ⟨s,p,toks,bad,bp⟩:=z
 have hck:(decide (0≤n)&&(ln s p==ln s p&&(sn s p==sn s p&&(Nat.ble (p+n.toNat) s.length&&Nat.ble s.length big))))=true:=by
  rw [decide_eq_true h0,beq_self_eq_true,beq_self_eq_true,ble_t h1,ble_t h2];rfl
 cases toks with
 | nil=>exact snd_m (n:=1) (tell0_ok _) (noTL_ok _ _) (fn:=Tryz.f22) (by kernel_rfl) (loops_of (fn:=Tryz.f22) (by kernel_rfl) (loops_1 ids18.1 (atL_ok (fun _=>LS18q_ok) fun h=>absurd ids18.2.1 h))) ((e18n s p bad bp n).trans (by rw [ck_t hck];rfl))
 | cons t l=>exact snd_m (n:=1) (tell0_ok _) (noTL_ok _ _) (fn:=Tryz.f22) (by kernel_rfl) (loops_of (fn:=Tryz.f22) (by kernel_rfl) (loops_1 ids18.1 (atL_ok (fun _=>LS18q_ok) fun h=>absurd ids18.2.1 h))) ((e18c s p t l bad bp n).trans (by rw [ck_t hck];rfl))
def pStep (z:Scn):List (D Pl)→Option (Bool×D Pl×Scn)
 | [.int .i64 n]=>some (stepOk z n,.tup [],z.go (z.p+n.toNat))
 | _=>none
theorem pStep_ok:∀z args c d z',pStep z args=some (c,d,z')→c=true→SndS 22 z args d z':=by
 intro z args c d z' h hc
 unfold pStep at h
 split at h
 ·simp only [Option.some.injEq,Prod.mk.injEq] at h
  obtain ⟨rfl,rfl,rfl⟩:=h
  exact steps _ _ hc
 ·simp at h
end Go.Proofs.YtcgbgcconigdbaaGreatDoor
namespace Go.Proofs.YtcgbgcconigdbaaGreatDoor
open Go.Eng
set_option maxRecDepth 100000
def letB (c:Int):Bool:=(decide (97≤c)&&decide (c≤122))||c==95
def digB (c:Int):Bool:=decide (48≤c)&&decide (c≤57)
def allB (c:Int):Bool:=letB c||digB c
def resB (x:Option (D Pl)) (b:Bool):Bool:=match x with
 | some (.bool c)=>c==b
 | _=>false
theorem resB_eq {x:Option (D Pl)} {b:Bool} (h:resB x b=true):x=some (.bool b):=by
 unfold resB at h
 split at h
 ·rw [beq_iff_eq] at h;rw [h]
 ·simp at h
theorem hasF:(List.range 256).all (fun n=>resB (ev tell0 noTL 2 24 [.agg [.int .u64 0,.int .u64 576460745860972544],.int .u8 (Int.ofNat n)]) (letB (Int.ofNat n)))=true:=by kernel_rfl
theorem hasN:(List.range 256).all (fun n=>resB (ev tell0 noTL 2 24 [.agg [.int .u64 287948901175001088,.int .u64 0],.int .u8 (Int.ofNat n)]) (digB (Int.ofNat n)))=true:=by kernel_rfl
theorem hasA:(List.range 256).all (fun n=>resB (ev tell0 noTL 2 24 [.agg [.int .u64 287948901175001088,.int .u64 576460745860972544],.int .u8 (Int.ofNat n)]) (allB (Int.ofNat n)))=true:=by kernel_rfl
theorem has_any {cs:List (D Pl)} {f:Int→Bool} (h:(List.range 256).all (fun n=>resB (ev tell0 noTL 2 24 [.agg cs,.int .u8 (Int.ofNat n)]) (f (Int.ofNat n)))=true) (c:Int) (h0:0≤c) (h1:c < 256):Snd 24 [.agg cs,.int .u8 c] (.bool (f c)):=by
 obtain ⟨n,rfl⟩:=Int.eq_ofNat_of_zero_le h0
 have:=List.all_eq_true.1 h n (List.mem_range.2 (by omega))
 exact snd_of (tell0_ok _) (noTL_ok _ _) (resB_eq this)
def byB (c:Int):Bool:=decide (0≤c)&&decide (c < 256)
def clsOf (a b:Int):Option (Int→Bool):=bif a==0&&b==576460745860972544 then some letB else bif a==287948901175001088&&b==0 then some digB else bif a==287948901175001088&&b==576460745860972544 then some allB else none
theorem cls_sound {a b:Int} {f:Int→Bool} (h:clsOf a b=some f) (c:Int) (hc:byB c=true):Snd 24 [.agg [.int .u64 a,.int .u64 b],.int .u8 c] (.bool (f c)):=by
 simp only [byB,Bool.and_eq_true,decide_eq_true_eq] at hc
 unfold clsOf at h
 cases h1:a==0&&b==576460745860972544 with
 | true =>
  rw [h1] at h
  simp only [cond_true,Option.some.injEq] at h
  simp only [Bool.and_eq_true,beq_iff_eq] at h1
  obtain ⟨rfl,rfl⟩:=h1
  subst h
  exact has_any hasF c hc.1 hc.2
 | false =>
  rw [h1] at h
  cases h2:a==287948901175001088&&b==0 with
  | true =>
   rw [h2] at h
   simp only [cond_false,cond_true,Option.some.injEq] at h
   simp only [Bool.and_eq_true,beq_iff_eq] at h2
   obtain ⟨rfl,rfl⟩:=h2
   subst h
   exact has_any hasN c hc.1 hc.2
  | false =>
   rw [h2] at h
   cases h3:a==287948901175001088&&b==576460745860972544 with
   | true =>
    rw [h3] at h
    simp only [cond_false,cond_true,Option.some.injEq] at h
    simp only [Bool.and_eq_true,beq_iff_eq] at h3
    obtain ⟨rfl,rfl⟩:=h3
    subst h
    exact has_any hasA c hc.1 hc.2
   | false=>rw [h3] at h;simp at h
def pHas:List (D Pl)→Option (Bool×D Pl)
 | [.agg [.int .u64 a,.int .u64 b],.int .u8 c]=>match clsOf a b with
  | some f=>some (byB c,.bool (f c))
  | none=>none
 | _=>none
theorem pHas_ok:∀ds b d,pHas ds=some (b,d)→b=true→Snd 24 ds d:=by
 intro ds b d h hb
 unfold pHas at h
 split at h
 ·split at h
  ·rename_i hf
   simp only [Option.some.injEq,Prod.mk.injEq] at h
   obtain ⟨rfl,rfl⟩:=h
   exact cls_sound hf _ hb
  ·simp at h
 ·simp at h
def tHas (R:Eng.Told Pl):Eng.Told Pl:=tell 24 pHas R
theorem tHas_ok {R:Eng.Told Pl} (h:TOk R):TOk (tHas R):=tell_ok pHas_ok h
end Go.Proofs.YtcgbgcconigdbaaGreatDoor
namespace Go.Proofs.YtcgbgcconigdbaaGreatDoor
open Go.Eng
set_option maxRecDepth 100000
def bytI (s:Str) (w:Int):Int:=Int.ofNat (s.getD w.toNat 0).toNat
theorem byB_bytI (s:Str) (w:Int):byB (bytI s w)=true:=by
 have:=(s.getD w.toNat 0).toNat_lt
 have h1:(0:Int)≤bytI s w:=Int.natCast_nonneg _
 have h2:bytI s w < 256:=by
  show ((s.getD w.toNat 0).toNat:Int) < 256
  omega
 unfold byB
 rw [decide_eq_true h1,decide_eq_true h2];rfl
def s27 (s:Str) (p:Nat) (l t:Int) (r:List (D Pl)) (n:Int):St Pl:=mkS 36 [(0,.ref (bxc s p l t r)),(3,.ptr 3 0),(5,dI n)] [(3,.box false [.int .u64 287948901175001088,.int .u64 576460745860972544])]
theorem b27 (s:Str) (p n:Nat) (l t:Int) (r:List (D Pl)):evC (tHas tell0) noTL noL 1 (loopAt 33 0) [0,3,5] (s27 s p l t r n) =
  ck_ ((decide (0≤w64 ((p:Int)+(n:Int)))&&decide (w64 ((p:Int)+(n:Int)) < (s.length:Int)))||!(decide (w64 ((p:Int)+(n:Int)) < (s.length:Int))==true))
   (bif decide (w64 ((p:Int)+(n:Int)) < (s.length:Int))==true then ck_ (byB (bytI s (w64 ((p:Int)+(n:Int))))) (bif allB (bytI s (w64 ((p:Int)+(n:Int)))) then some (.normal,s27 s p l t r (w64 ((n:Int)+1))) else some (.exit 0,s27 s p l t r n))
    else some (.exit 0,s27 s p l t r n)):=by kernel_rfl
theorem ids27:(loopsAt 33).length=1∧firstId (loopAt 33 0)=2∧loopsOf (loopAt 33 0)=[]:=⟨by kernel_rfl,by kernel_rfl,by kernel_rfl⟩
def runM (s:Str) (p:Nat):Nat:=ff (fun i=>allB (byt s (p+i))) (s.length - p)
theorem go27 (s:Str) (p:Nat) (l t:Int) (r:List (D Pl)) (hp:p≤s.length) (hl:s.length≤big) :
  Goes X0 (.loop (loopAt 33 0)) (s27 s p l t r 0) (pickR (.leaf (.exit 0) (s27 s p l t r (runM s p)))).1 (pickR (.leaf (.exit 0) (s27 s p l t r (runM s p)))).2:=by
 have hbig:big=140737488355328:=rfl
 have hw:∀i:Nat,i≤s.length - p→w64 ((p:Int)+(i:Int))=((p+i:Nat):Int):=by
  intro i hi
  rw [show (p:Int)+(i:Int)=((p+i:Nat):Int) by omega]
  exact wrap_in _ (by omega)
 have hby:∀i:Nat,bytI s ((p+i:Nat):Int)=byt s (p+i):=fun i=>rfl
 refine loop_until (Sf:=fun i=>s27 s p l t r i) (S2:=fun i=>s27 s p l t r i) (e:=.exit 0) (by simp) (fun i hi hpi=>?_) (fun i hi hpi=>?_)
 ·refine goes_of (tHas_ok (tell0_ok _)) (noTL_ok _ _) (noLoops ids27.2.2) ((b27 s p i l t r).trans ?_)
  rw [hw i (by omega),decide_eq_true (show ((p+i:Nat):Int) < (s.length:Int) by omega),decide_eq_true (show (0:Int)≤((p+i:Nat):Int) by omega),ck_t (c:=(true&&true||!(true==true))) rfl,beq_self_eq_true,cond_true,ck_t (byB_bytI _ _),hby,hpi,
   show w64 ((i:Int)+1)=((i+1:Nat):Int) from wrap_nat (by omega)]
  rfl
 ·refine goes_of (tHas_ok (tell0_ok _)) (noTL_ok _ _) (noLoops ids27.2.2) ((b27 s p i l t r).trans ?_)
  rw [hw i hi]
  by_cases h:i < s.length - p
  ·rw [decide_eq_true (show ((p+i:Nat):Int) < (s.length:Int) by omega),decide_eq_true (show (0:Int)≤((p+i:Nat):Int) by omega),ck_t (c:=(true&&true||!(true==true))) rfl,beq_self_eq_true,cond_true,ck_t (byB_bytI _ _),hby,hpi h]
   rfl
  ·rw [decide_eq_false (show ¬ ((p+i:Nat):Int) < (s.length:Int) by omega),ck_t (by simp)]
   rfl
def LS27 (S:St Pl):Option (Bool×LR Pl):=match seenS 36 [0,3,5] S with
 | some ([.ref (.str s::.int .i64 (.ofNat p)::.int .i64 l::.int .i64 t::r),.ptr 3 0,.int .i64 (.ofNat 0)],[(3,.box false [.int .u64 a,.int .u64 b])]) =>
  some ((a==287948901175001088&&b==576460745860972544)&&(Nat.ble p s.length&&Nat.ble s.length big),.leaf (.exit 0) (s27 s p l t r (runM s p)))
 | _=>none
theorem LS27_ok:SOk X0 (loopAt 33 0) LS27:=by
 intro S b r h hb
 unfold LS27 at h
 split at h
 ·rename_i s p l t r' a b' hs
  simp only [Option.some.injEq,Prod.mk.injEq] at h
  obtain ⟨rfl,rfl⟩:=h
  simp only [Bool.and_eq_true,Nat.ble_eq,beq_iff_eq] at hb
  obtain ⟨⟨rfl,rfl⟩,h1,h2⟩:=hb
  refine Goes.pre (keepOf [0,3,5]) ?_
  rw [seenS_mask hs]
  exact go27 s p l t r' h1 h2
 ·simp at h
theorem e27 (s:Str) (p:Nat) (l t:Int) (r:List (D Pl)):evF (tHas tell0) noTL (atL 2 LS27 noL) 1 Tryz.f33 [.ref (bxc s p l t r),.agg [.int .u64 287948901175001088,.int .u64 576460745860972544]] =
  ck_ (Nat.ble p s.length&&Nat.ble s.length big) (some (dI (runM s p))):=by kernel_rfl
theorem run_sound (s:Str) (p:Nat) (l t:Int) (r:List (D Pl)) (hp:p≤s.length) (hl:s.length≤big):Snd 33 [.ref (bxc s p l t r),.agg [.int .u64 287948901175001088,.int .u64 576460745860972544]] (dI (runM s p)):=by
 refine snd_fn (n:=1) (tHas_ok (tell0_ok _)) (noTL_ok _ _) (fn:=Tryz.f33) (by kernel_rfl) (loops_of (fn:=Tryz.f33) (by kernel_rfl) (loops_1 ids27.1 (atL_ok (fun _=>LS27_ok) fun h=>absurd ids27.2.1 h))) ((e27 s p l t r).trans ?_)
 rw [ck_t (by rw [ble_t hp,ble_t hl];rfl)]
end Go.Proofs.YtcgbgcconigdbaaGreatDoor
namespace Go.Proofs.YtcgbgcconigdbaaGreatDoor
open Go.Eng
set_option maxRecDepth 100000
def Scn.fail (z:Scn) (e:Int) (p:PosR):Scn:={ z with bad:=bif z.bad==0 then e else z.bad,bp:=⟨bif z.bad==0 then p.at' else z.bp.at',bif z.bad==0 then p.line else z.bp.line,bif z.bad==0 then p.col else z.bp.col⟩ }
theorem e28n (s:Str) (p:Nat) (bad:Int) (bp q:PosR) (e:Int):evM tell0 noTL noL 1 Tryz.f34 (decH (encS ⟨s,p,[],bad,bp⟩)) [.ptr 50000 0,dI e,.agg (cPos q)] =
  bif bad==0 then some (.env (encS ⟨s,p,[],e,q⟩) (.tup [])) else some (.env (encS ⟨s,p,[],bad,bp⟩) (.tup [])):=by kernel_rfl
theorem e28c (s:Str) (p:Nat) (t:TokR) (l:List TokR) (bad:Int) (bp q:PosR) (e:Int):evM tell0 noTL noL 1 Tryz.f34 (decH (encS ⟨s,p,t::l,bad,bp⟩)) [.ptr 50000 0,dI e,.agg (cPos q)] =
  bif bad==0 then some (.env (encS ⟨s,p,t::l,e,q⟩) (.tup [])) else some (.env (encS ⟨s,p,t::l,bad,bp⟩) (.tup [])):=by kernel_rfl
theorem ids28:(loopsAt 34).length=0:=by kernel_rfl
theorem fails (z:Scn) (e:Int) (q:PosR):SndS 34 z [dI e,.agg (cPos q)] (.tup []) (z.fail e q):=by
 obtain ⟨s,p,toks,bad,bp⟩:=z
 have hL:=loops_of (f:=34) (fn:=Tryz.f34) (by kernel_rfl) (loops_0 ids28 (L:=noL))
 cases toks with
 | nil =>
  refine snd_m (n:=1) (tell0_ok _) (noTL_ok _ _) (fn:=Tryz.f34) (by kernel_rfl) hL ((e28n s p bad bp q e).trans ?_)
  unfold Scn.fail
  cases bad==0<;>rfl
 | cons t l =>
  refine snd_m (n:=1) (tell0_ok _) (noTL_ok _ _) (fn:=Tryz.f34) (by kernel_rfl) hL ((e28c s p t l bad bp q e).trans ?_)
  unfold Scn.fail
  cases bad==0<;>rfl
def pFail (z:Scn):List (D Pl)→Option (Bool×D Pl×Scn)
 | [.int .i64 e,.agg [.int .i64 a,.int .i64 b,.int .i64 c]]=>some (true,.tup [],z.fail e ⟨a,b,c⟩)
 | _=>none
theorem pFail_ok:∀z args c d z',pFail z args=some (c,d,z')→c=true→SndS 34 z args d z':=by
 intro z args c d z' h hc
 unfold pFail at h
 split at h
 ·simp only [Option.some.injEq,Prod.mk.injEq] at h
  obtain ⟨rfl,rfl,rfl⟩:=h
  exact fails _ _ ⟨_,_,_⟩
 ·simp at h
end Go.Proofs.YtcgbgcconigdbaaGreatDoor
namespace Go.Proofs.YtcgbgcconigdbaaGreatDoor
open Go.Eng
set_option maxRecDepth 100000
theorem loop_run {A:Type} {body:Code} {Sf:A→St Pl} (I:A→Prop) (m:A→Nat) (res:A→Ex×St Pl)
  (step:∀a,I a→(∃b,I b∧m b < m a∧res a=res b∧Goes X0 body (Sf a) .normal (Sf b))∨((res a).1≠.normal∧Goes X0 body (Sf a) (res a).1 (res a).2)) (a:A) (ha:I a) :
  Goes X0 (.loop body) (Sf a) (res a).1 (res a).2:=by
 have key:∀(k:Nat) (a:A),m a < k→I a→∃(n:Nat) (T:Nat→St Pl),T 0=Sf a∧(∀i,i < n→Goes X0 body (T i) .normal (T (i+1)))∧(res a).1≠.normal∧Goes X0 body (T n) (res a).1 (res a).2:=by
  intro k
  induction k with
  | zero=>intro a h;omega
  | succ k ih =>
   intro a hk ha
   rcases step a ha with ⟨b,hb,hm,hr,hg⟩ | ⟨hn,hg⟩
   ·obtain ⟨n,T,h0,h1,h2,h3⟩:=ih b (by omega) hb
    refine ⟨n+1,fun i=>match i with
     | 0=>Sf a
     | i+1=>T i,rfl,fun i hi=>?_,by rw [hr];exact h2,by rw [hr];exact h3⟩
    match i with
    | 0=>show Goes X0 body (Sf a) .normal (T 0);rw [h0];exact hg
    | i+1=>exact h1 i (by omega)
   ·exact ⟨0,fun _=>Sf a,rfl,fun i hi=>by omega,hn,hg⟩
 obtain ⟨n,T,h0,h1,h2,h3⟩:=key (m a+1) a (by omega) ha
 rw [←h0]
 exact loop_goes h2 n T h1 h3
def decO:Obs Pl→Option (Bool×Scn)
 | [(50000,.box false (.str s::.int .i64 (.ofNat p)::.int .i64 l::.int .i64 t::[.int .u64 (.ofNat 0),.int .u64 a,.int .u64 b,.int .u64 c,.int .u64 d,.int .u64 (.ofNat 0),.nilS,.int .i64 bad,.int .i64 ba,.int .i64 bl,.int .i64 bc,.str []]))] =>
  some ((l==ln s p&&t==sn s p)&&((a==cF&&b==cN)&&(c==cF&&d==cN)),⟨s,p,[],bad,⟨ba,bl,bc⟩⟩)
 | [(50000,.box false (.str s::.int .i64 (.ofNat p)::.int .i64 l::.int .i64 t::[.int .u64 (.ofNat 0),.int .u64 a,.int .u64 b,.int .u64 c,.int .u64 d,.int .u64 (.ofNat 0),.arr 100010,.int .i64 bad,.int .i64 ba,.int .i64 bl,.int .i64 bc,.str []])),(100010,.arr false ⟨.toks,x::r⟩)] =>
  some ((l==ln s p&&t==sn s p)&&((a==cF&&b==cN)&&(c==cF&&d==cN)),⟨s,p,x::r,bad,⟨ba,bl,bc⟩⟩)
 | _=>none
theorem decO_eq {H:Obs Pl} {b:Bool} {z:Scn} (h:decO H=some (b,z)) (hb:b=true):H=decH (encS z):=by
 unfold decO at h
 split at h
 ·simp only [Option.some.injEq,Prod.mk.injEq] at h
  obtain ⟨rfl,rfl⟩:=h
  simp only [Bool.and_eq_true,beq_iff_eq] at hb
  obtain ⟨⟨rfl,rfl⟩,⟨rfl,rfl⟩,rfl,rfl⟩:=hb
  rfl
 ·simp only [Option.some.injEq,Prod.mk.injEq] at h
  obtain ⟨rfl,rfl⟩:=h
  simp only [Bool.and_eq_true,beq_iff_eq] at hb
  obtain ⟨⟨rfl,rfl⟩,⟨rfl,rfl⟩,rfl,rfl⟩:=hb
  rfl
 ·simp at h
def encN (nm:Nat) (z:Scn):Obs Pl:=match z.toks with
 | []=>[(50000,.box false (bxc z.s z.p (ln z.s z.p) (sn z.s z.p) (tailD .nilS z.bad z.bp)))]
 | t::l=>[(50000,.box false (bxc z.s z.p (ln z.s z.p) (sn z.s z.p) (tailD (.arr nm) z.bad z.bp))),(nm,.arr false ⟨.toks,t::l⟩)]
theorem indexByte_ff:∀(l:Str) (c:UInt8),Lib.indexByte l c=bif Nat.blt (ff (fun i=>!(byt l i==(c.toNat:Int))) l.length) l.length then ((ff (fun i=>!(byt l i==(c.toNat:Int))) l.length:Nat):Int) else -1
 | [],c=>rfl
 | b::l,c=>by
  have ih:=indexByte_ff l c
  have h0:(byt (b::l) 0==(c.toNat:Int))=(b==c):=by
   show ((b.toNat:Int)==(c.toNat:Int))=_
   by_cases h:b=c
   ·subst h;simp
   ·rw [beq_eq_false_iff_ne.2 h,beq_eq_false_iff_ne.2]
    intro hh
    exact h (UInt8.toNat_inj.1 (by omega))
  have h1:(fun i=>!(byt (b::l) (i+1)==(c.toNat:Int)))=(fun i=>!(byt l i==(c.toNat:Int))):=rfl
  simp only [Lib.indexByte,List.length_cons,ff,h0,h1]
  by_cases h:b=c
  ·subst h
   simp [Nat.blt]
   rfl
  ·rw [beq_eq_false_iff_ne.2 h]
   simp only [Bool.not_false,cond_true,Bool.false_eq_true,if_false]
   rw [ih]
   generalize ff (fun i=>!(byt l i==(c.toNat:Int))) l.length=k
   have e:Nat.blt (k+1) (l.length+1)=Nat.blt k l.length:=rfl
   rw [e]
   cases Nat.blt k l.length with
   | true =>
    simp only [cond_true]
    rw [if_neg (by rw [beq_iff_eq];omega)];rfl
   | false=>simp
end Go.Proofs.YtcgbgcconigdbaaGreatDoor
namespace Go.Proofs.YtcgbgcconigdbaaGreatDoor
open Go.Eng
theorem byt_drop (s:Str) (p i:Nat):byt (s.drop p) i=byt s (p+i):=by
 unfold byt
 rw [List.getD_eq_getElem?_getD,List.getD_eq_getElem?_getD,List.getElem?_drop]
def isB (c:Int):Bool:=c==32||(c==10||c==9)
def cmt (s:Str) (p:Nat):Nat:=ff (fun i=>!(byt (s.drop p) i==10)) (s.drop p).length
theorem cmt_le (s:Str) (p:Nat):cmt s p≤s.length - p:=by
 rcases ff_spec (s.drop p).length (fun i=>!(byt (s.drop p) i==10)) with ⟨h,_⟩ | ⟨h,_⟩<;>unfold cmt<;>rw [List.length_drop] at *<;>omega
theorem cmt_pos {s:Str} {p:Nat} (hp:p < s.length) (hb:(byt s p==35)=true):0 < cmt s p:=by
 have hl:0 < (s.drop p).length:=by rw [List.length_drop];omega
 rcases ff_spec (s.drop p).length (fun i=>!(byt (s.drop p) i==10)) with ⟨h,_⟩ | ⟨_,h,_⟩
 ·unfold cmt;omega
 ·unfold cmt
  rcases Nat.eq_zero_or_pos (ff (fun i=>!(byt (s.drop p) i==10)) (s.drop p).length) with h0 | h0
  ·rw [h0,byt_drop,Nat.add_zero] at h
   rw [beq_iff_eq] at hb
   rw [hb] at h
   simp at h
  ·exact h0
def blk:Nat→Str→Nat→Nat
 | 0,_,p=>p
 | k+1,s,p=>bif Nat.blt p s.length then (bif isB (byt s p) then blk k s (p+1) else bif byt s p==35 then blk k s (p+cmt s p) else p) else p
def blankM (s:Str) (p:Nat):Nat:=blk (s.length - p) s p
theorem blk_any:∀(k k':Nat) (s:Str) (p:Nat),s.length - p≤k→s.length - p≤k'→blk k s p=blk k' s p
 | 0,0,_,_,_,_=>rfl
 | 0,k'+1,s,p,h,_=>by
  have hb:Nat.blt p s.length=false:=by
   cases hb:Nat.blt p s.length with
   | false=>rfl
   | true=>rw [Nat.blt_eq] at hb;omega
  simp [blk,hb]
 | k+1,0,s,p,_,h=>by
  have hb:Nat.blt p s.length=false:=by
   cases hb:Nat.blt p s.length with
   | false=>rfl
   | true=>rw [Nat.blt_eq] at hb;omega
  simp [blk,hb]
 | k+1,k'+1,s,p,h,h'=>by
  simp only [blk]
  cases hb:Nat.blt p s.length with
  | false=>rfl
  | true =>
   rw [Nat.blt_eq] at hb
   simp only [cond_true]
   cases hB:isB (byt s p) with
   | true=>exact blk_any k k' s (p+1) (by omega) (by omega)
   | false =>
    cases hc:byt s p==35 with
    | true =>
     have:=cmt_pos hb hc
     exact blk_any k k' s (p+cmt s p) (by omega) (by omega)
    | false=>rfl
theorem blankM_end {s:Str} {p:Nat} (h:¬ p < s.length):blankM s p=p:=by
 unfold blankM
 rw [show s.length - p=0 by omega];rfl
theorem blankM_eq {s:Str} {p:Nat} (h:p < s.length):blankM s p=bif isB (byt s p) then blankM s (p+1) else bif byt s p==35 then blankM s (p+cmt s p) else p:=by
 unfold blankM
 obtain ⟨k,hk⟩:∃k,s.length - p=k+1:=⟨s.length - p - 1,by omega⟩
 rw [hk]
 simp only [blk]
 rw [blt_t h,cond_true]
 cases hB:isB (byt s p) with
 | true=>exact blk_any _ _ _ _ (by omega) (by omega)
 | false =>
  cases hc:byt s p==35 with
  | true =>
   have:=cmt_pos h hc
   exact blk_any _ _ _ _ (by omega) (by omega)
  | false=>rfl
theorem blankM_in (s:Str):∀(n p:Nat),s.length - p=n→p≤s.length→p≤blankM s p∧blankM s p≤s.length:=by
 intro n
 induction n using Nat.strongRecOn with
 | _ n ih =>
  intro p hn hp
  rcases Nat.lt_or_ge p s.length with h | h
  ·rw [blankM_eq h]
   cases hB:isB (byt s p) with
   | true =>
    have:=ih (s.length - (p+1)) (by omega) (p+1) rfl (by omega)
    simp only [cond_true];omega
   | false =>
    cases hc:byt s p==35 with
    | true =>
     have h1:=cmt_pos h hc
     have h2:=cmt_le s p
     have:=ih (s.length - (p+cmt s p)) (by omega) (p+cmt s p) rfl (by omega)
     simp only [cond_true,cond_false];omega
    | false=>simp only [cond_false];omega
  ·rw [blankM_end (by omega)];omega
end Go.Proofs.YtcgbgcconigdbaaGreatDoor
