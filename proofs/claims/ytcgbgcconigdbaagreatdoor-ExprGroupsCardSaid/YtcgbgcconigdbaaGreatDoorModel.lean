/-
 A TOKEN, plainly; all tokens.
-/
import Derived.Test.YtcgbgcconigdbaaGreatDoorRounds
import Derived.Test.YtcgbgcconigdbaaGreatDoorLook
import Derived.Test.YtcgbgcconigdbaaGreatDoorIdx
namespace Go.Proofs.YtcgbgcconigdbaaGreatDoor
open Go.Eng
set_option maxRecDepth 100000
def pRun:List (D Pl)→Option (Bool×D Pl)
 | [.ref (.str s::.int .i64 (.ofNat p)::.int .i64 _::.int .i64 _::_),.agg [.int .u64 a,.int .u64 b]]=>bif a==287948901175001088&&b==576460745860972544 then some (Nat.ble p s.length&&Nat.ble s.length big,dI (runM s p)) else none
 | _=>none
theorem pRun_ok:∀ds b d,pRun ds=some (b,d)→b=true→Snd 33 ds d:=by
 intro ds b d h hb
 unfold pRun at h
 split at h
 ·rename_i s p l t r a b'
  cases hc:a==287948901175001088&&b'==576460745860972544 with
  | false=>rw [hc] at h;simp at h
  | true =>
   rw [hc] at h
   simp only [cond_true,Option.some.injEq,Prod.mk.injEq] at h
   obtain ⟨rfl,rfl⟩:=h
   simp only [Bool.and_eq_true,beq_iff_eq,Nat.ble_eq] at hc hb
   obtain ⟨rfl,rfl⟩:=hc
   exact run_sound s p l t r hb.1 hb.2
 ·simp at h
def tRun (R:Eng.Told Pl):Eng.Told Pl:=tell 33 pRun (tellM 22 (pM pStep) (tellM 34 (pM pFail) R))
theorem tRun_ok {R:Eng.Told Pl} (h:TOk R):TOk (tRun R):=tell_ok pRun_ok (tellM_ok (pM_ok pStep_ok) (tellM_ok (pM_ok pFail_ok) h))
def okS (s:Str) (p:Nat):Bool:=((ln s p==ln s p)&&(sn s p==sn s p))&&((cF==cF&&cN==cN)&&(cF==cF&&cN==cN))
theorem okS_t (s:Str) (p:Nat):okS s p=true:=by simp [okS]
def slO (p:Nat) (w:Int) (n:Nat):Bool:=(decide ((0:Int)≤(p:Int))&&decide ((p:Int)≤w)&&decide (w≤(n:Int)))||false
def slS (s:Str) (p:Nat) (w:Int):Str:=List.take (w.toNat - (p:Int).toNat) (List.drop (p:Int).toNat s)
def tokN (t:TokR) (s:Str):TokR:={ t with kind:=1,s:=s }
def nameR (z:Scn) (t:TokR) (n:Nat):Option (D Pl) :=
 ck_ (slO z.p (w64 ((z.p:Int)+(n:Int))) z.s.length) (ck_ (okS z.s z.p&&stepOk z (n:Int)) (some (.env (encS (z.go (z.p+(n:Int).toNat))) (.agg (cTok (tokN t (slS z.s z.p (w64 ((z.p:Int)+(n:Int))))))))))
theorem e22n (s:Str) (p:Nat) (bad:Int) (bp:PosR) (t:TokR):evM (tRun tell0) noTL noL 2 Tryz.f25 (decH (encS ⟨s,p,[],bad,bp⟩)) [.ptr 50000 0,.agg (cTok t)] =
  ck_ (Nat.ble p s.length&&Nat.ble s.length big) (bif decide ((runM s p:Int) > 24) then ck_ (okS s p&&true) (nameR (Scn.fail ⟨s,p,[],bad,bp⟩ 3 t.p) t (runM s p)) else nameR ⟨s,p,[],bad,bp⟩ t (runM s p)):=by kernel_rfl
theorem e22c (s:Str) (p:Nat) (x:TokR) (l:List TokR) (bad:Int) (bp:PosR) (t:TokR):evM (tRun tell0) noTL noL 2 Tryz.f25 (decH (encS ⟨s,p,x::l,bad,bp⟩)) [.ptr 50000 0,.agg (cTok t)] =
  ck_ (Nat.ble p s.length&&Nat.ble s.length big) (bif decide ((runM s p:Int) > 24) then ck_ (okS s p&&true) (nameR (Scn.fail ⟨s,p,x::l,bad,bp⟩ 3 t.p) t (runM s p)) else nameR ⟨s,p,x::l,bad,bp⟩ t (runM s p)):=by kernel_rfl
theorem runM_le (s:Str) (p:Nat):runM s p≤s.length - p:=by
 rcases ff_spec (s.length - p) (fun i=>allB (byt s (p+i))) with ⟨h,_⟩ | ⟨h,_⟩<;>unfold runM<;>omega
def Scn.named (z:Scn) (t:TokR):Scn:=({ z with bad:=bif decide ((runM z.s z.p:Int) > 24) then (z.fail 3 t.p).bad else z.bad,bp:=bif decide ((runM z.s z.p:Int) > 24) then (z.fail 3 t.p).bp else z.bp }:Scn).go (z.p+runM z.s z.p)
def nameT (z:Scn) (t:TokR):TokR:=tokN t ((z.s.drop z.p).take (runM z.s z.p))
theorem nameR_eq (z:Scn) (t:TokR) (n:Nat) (hn:n≤z.s.length - z.p) (hp:z.p≤z.s.length) (hl:z.s.length≤big):nameR z t n=some (.env (encS (z.go (z.p+n))) (.agg (cTok (tokN t ((z.s.drop z.p).take n))))):=by
 have hbig:big=140737488355328:=rfl
 unfold nameR
 have hw:w64 ((z.p:Int)+(n:Int))=((z.p+n:Nat):Int):=by
  rw [show (z.p:Int)+(n:Int)=((z.p+n:Nat):Int) by omega]
  exact wrap_in _ (by omega)
 rw [hw,ck_t (by unfold slO;rw [decide_eq_true (by omega),decide_eq_true (by omega),decide_eq_true (by omega)];rfl),ck_t (by
  rw [okS_t,Bool.true_and]
  unfold stepOk
  rw [decide_eq_true (by omega),ble_t (show z.p+(n:Int).toNat≤z.s.length by omega),ble_t hl];rfl)]
 have e1:(n:Int).toNat=n:=by omega
 have e2:slS z.s z.p ((z.p+n:Nat):Int)=(z.s.drop z.p).take n:=by
  unfold slS
  rw [show ((z.p+n:Nat):Int).toNat - (z.p:Int).toNat=n by omega,show (z.p:Int).toNat=z.p by omega]
 rw [e1,e2]
theorem ids22:(loopsAt 25).length=0:=by kernel_rfl
theorem names (z:Scn) (t:TokR) (hp:z.p≤z.s.length) (hl:z.s.length≤big):SndS 25 z [.agg (cTok t)] (.agg (cTok (nameT z t))) (z.named t):=by
 have hL:=loops_of (f:=25) (fn:=Tryz.f25) (by kernel_rfl) (loops_0 ids22 (L:=noL))
 obtain ⟨s,p,toks,bad,bp⟩:=z
 have hn:=runM_le s p
 have key:∀toks,ck_ (Nat.ble p s.length&&Nat.ble s.length big) (bif decide ((runM s p:Int) > 24) then ck_ (okS s p&&true) (nameR (Scn.fail ⟨s,p,toks,bad,bp⟩ 3 t.p) t (runM s p)) else nameR ⟨s,p,toks,bad,bp⟩ t (runM s p)) =
   some (.env (encS (Scn.named ⟨s,p,toks,bad,bp⟩ t)) (.agg (cTok (nameT ⟨s,p,toks,bad,bp⟩ t)))):=by
  intro toks
  rw [ck_t (by rw [ble_t hp,ble_t hl];rfl)]
  unfold Scn.named
  cases h:decide ((runM s p:Int) > 24) with
  | true=>rw [cond_true,ck_t (by rw [okS_t];rfl)];exact (nameR_eq (Scn.fail ⟨s,p,toks,bad,bp⟩ 3 t.p) t (runM s p) hn hp hl).trans rfl
  | false=>rw [cond_false];exact (nameR_eq ⟨s,p,toks,bad,bp⟩ t (runM s p) hn hp hl).trans rfl
 cases toks with
 | nil=>exact snd_m (n:=2) (tRun_ok (tell0_ok _)) (noTL_ok _ _) (fn:=Tryz.f25) (by kernel_rfl) hL ((e22n s p bad bp t).trans (key []))
 | cons x l=>exact snd_m (n:=2) (tRun_ok (tell0_ok _)) (noTL_ok _ _) (fn:=Tryz.f25) (by kernel_rfl) hL ((e22c s p x l bad bp t).trans (key (x::l)))
end Go.Proofs.YtcgbgcconigdbaaGreatDoor
namespace Go.Proofs.YtcgbgcconigdbaaGreatDoor
open Go.Eng
set_option maxRecDepth 100000
def escV (c:Int):Int:=bif c==34 then c else bif c==92 then c else bif c==36 then c else bif c==110 then 10 else bif c==116 then 9 else 0
def escB (c:Int):Bool:=bif c==34 then true else bif c==92 then true else bif c==36 then true else bif c==110 then true else bif c==116 then true else false
def escR (c:Int):Option (D Pl):=bif c==110 then some (.tup [.int .u8 10,.bool true]) else bif c==116 then some (.tup [.int .u8 9,.bool true]) else some (.tup [.int .u8 0,.bool false])
def escC (c k:Int):Option (D Pl):=bif c==k then some (.tup [.int .u8 c,.bool true]) else escR c
theorem e37 (c:Int):ev tell0 noTL 2 44 [.int .u8 c]=bif c==34 then escC c 34 else bif c==92 then escC c 92 else escC c 36:=by kernel_rfl
theorem esc_sound (c:Int):Snd 44 [.int .u8 c] (.tup [.int .u8 (escV c),.bool (escB c)]):=by
 refine snd_of (tell0_ok _) (noTL_ok _ _) ((e37 c).trans ?_)
 unfold escV escB escC escR
 cases c==34<;>cases c==92<;>cases c==36<;>cases c==110<;>cases c==116<;>rfl
end Go.Proofs.YtcgbgcconigdbaaGreatDoor
namespace Go.Proofs.YtcgbgcconigdbaaGreatDoor
open Go.Eng
def posR (s:Str) (p:Nat):PosR:=⟨p,ln s p,(p:Int) - sn s p+1⟩
def tok0 (s:Str) (p:Nat):TokR:=⟨0,[],0,[],posR s p⟩
def sl (s:Str) (p n:Nat):Str:=(s.drop p).take n
structure TOut where
 t:TokR
 q:Nat
 e:Int
def nameO (s:Str) (p:Nat):TOut:=⟨⟨1,sl s p (runM s p),0,[],posR s p⟩,p+runM s p,bif decide ((runM s p:Int) > 24) then 3 else 0⟩
def numO (s:Str) (p:Nat):TOut:=⟨⟨2,[],(Nu.parseV (sl s p (runM s p))).1,[],posR s p⟩,p+runM s p,(Nu.parseV (sl s p (runM s p))).2⟩
def two (s:Str) (p:Nat) (a b:Int):Bool:=byt s p==a&&byt s (p+1)==b
def twoS (s:Str) (p:Nat):Str:=bif two s p 61 61 then [61,61] else bif two s p 33 61 then [33,61] else bif two s p 60 61 then [60,61] else bif two s p 62 61 then [62,61] else
 bif two s p 38 38 then [38,38] else bif two s p 124 124 then [124,124] else bif two s p 61 62 then [61,62] else []
def onesS:Str:=[123,125,91,93,40,41,61,44,46,58,63,33,60,62,43,45,42,47,37]
def isOne (c:Int):Bool:=onesS.any fun x=>(x.toNat:Int)==c
def signO (s:Str) (p:Nat):TOut:=match twoS s p with
 | []=>bif isOne (byt s p) then ⟨⟨4,sl s p 1,0,[],posR s p⟩,p+1,0⟩ else ⟨⟨4,[],0,[],posR s p⟩,p,23⟩
 | x::l=>⟨⟨4,x::l,0,[],posR s p⟩,p+2,0⟩
structure BodyO where
 ok:Bool
 l:List PartR
 q:Nat
def fl (out:List PartR):Str→List PartR
 | []=>out
 | x::b=>out++[⟨false,x::b,⟨0,0,0⟩⟩]
def isQ (c:Int):Bool:=c==34||(c==123||(c==125||c==10))
def pcn (s:Str) (p:Nat):Nat:=ff (fun i=>!(isQ (byt (s.drop p) i))) (s.drop p).length
def pcOk (s:Str) (p:Nat):Bool:=Nat.blt (pcn s p) (s.drop p).length&&byt s (p+pcn s p)==125
def pieceR (s:Str) (p:Nat):PartR:=⟨true,sl s p (pcn s p),posR s p⟩
def bodyK:Nat→Str→Nat→List PartR→Str→BodyO
 | 0,_,p,_,_=>⟨false,[],p⟩
 | k+1,s,p,out,b =>
  bif !(Nat.blt p s.length) then ⟨false,[],p⟩
  else bif byt s p==34 then ⟨true,fl out b,p+1⟩
  else bif byt s p==10 then ⟨false,[],p⟩
  else bif byt s p==92 then (bif !(Nat.blt (p+1) s.length) then ⟨false,[],p⟩ else bif escB (byt s (p+1)) then bodyK k s (p+2) out (b++[(escV (byt s (p+1))).toNat.toUInt8]) else ⟨false,[],p⟩)
  else bif two s p 36 123 then (bif pcOk s (p+2) then bodyK k s (p+2+pcn s (p+2)+1) (fl out b++[pieceR s (p+2)]) [] else ⟨false,[],p+2⟩)
  else bodyK k s (p+1) out (b++[s.getD p 0])
def bodyM (s:Str) (p:Nat) (out:List PartR) (b:Str):BodyO:=bodyK (s.length - p+1) s p out b
def psum:List PartR→Nat
 | []=>0
 | x::l=>x.s.length+psum l
def textO (s:Str) (p:Nat):TOut:=bif (bodyM s (p+1) [] []).ok
 then ⟨⟨3,[],0,(bodyM s (p+1) [] []).l,posR s p⟩,(bodyM s (p+1) [] []).q,bif decide ((psum (bodyM s (p+1) [] []).l:Int) > 1024) then 3 else 0⟩
 else ⟨tok0 s p,(bodyM s (p+1) [] []).q,4⟩
def tokO (s:Str) (p:Nat):TOut:=bif Nat.beq p s.length then ⟨tok0 s p,p,0⟩ else bif letB (byt s p) then nameO s p else bif digB (byt s p) then numO s p else bif byt s p==34 then textO s p else signO s p
structure AllO where
 l:List TokR
 bad:Int
 bp:PosR
def allK:Nat→Str→Nat→List TokR→AllO
 | 0,_,_,_=>⟨[],0,⟨0,0,0⟩⟩
 | k+1,s,p,acc=>bif !((tokO s (blankM s p)).e==0) then ⟨[],(tokO s (blankM s p)).e,posR s (blankM s p)⟩
  else bif (tokO s (blankM s p)).t.kind==0 then ⟨acc++[(tokO s (blankM s p)).t],0,⟨0,0,0⟩⟩
  else allK k s (tokO s (blankM s p)).q (acc++[(tokO s (blankM s p)).t])
def allM (s:Str):AllO:=bif Nat.blt 32768 s.length then ⟨[],3,posR s 0⟩ else allK (s.length+1) s 0 []
theorem blt_f {a b:Nat} (h:¬ a < b):Nat.blt a b=false:=by
 cases hb:Nat.blt a b with
 | false=>rfl
 | true=>rw [Nat.blt_eq] at hb;omega
theorem pcn_le (s:Str) (p:Nat):pcn s p≤s.length - p:=by
 rcases ff_spec (s.drop p).length (fun i=>!(isQ (byt (s.drop p) i))) with ⟨h,_⟩ | ⟨h,_⟩<;>unfold pcn<;>rw [List.length_drop] at *<;>omega
theorem pcOk_lt {s:Str} {p:Nat} (h:pcOk s p=true):p+pcn s p < s.length:=by
 unfold pcOk at h
 rw [Bool.and_eq_true,Nat.blt_eq,List.length_drop] at h
 omega
theorem bodyK_any:∀(k k':Nat) (s:Str) (p:Nat) (out:List PartR) (b:Str),s.length - p < k→s.length - p < k'→bodyK k s p out b=bodyK k' s p out b
 | 0,_,_,_,_,_,h,_=>by omega
 | _+1,0,_,_,_,_,_,h=>by omega
 | k+1,k'+1,s,p,out,b,h,h'=>by
  simp only [bodyK]
  cases hb:Nat.blt p s.length with
  | false=>rfl
  | true =>
   rw [Nat.blt_eq] at hb
   rw [bodyK_any k k' s (p+2) _ _ (by omega) (by omega),bodyK_any k k' s (p+2+pcn s (p+2)+1) _ _ (by omega) (by omega),bodyK_any k k' s (p+1) _ _ (by omega) (by omega)]
theorem bodyM_eq {s:Str} {p:Nat} (out:List PartR) (b:Str):bodyM s p out b =
  bif !(Nat.blt p s.length) then ⟨false,[],p⟩
  else bif byt s p==34 then ⟨true,fl out b,p+1⟩
  else bif byt s p==10 then ⟨false,[],p⟩
  else bif byt s p==92 then (bif !(Nat.blt (p+1) s.length) then ⟨false,[],p⟩ else bif escB (byt s (p+1)) then bodyM s (p+2) out (b++[(escV (byt s (p+1))).toNat.toUInt8]) else ⟨false,[],p⟩)
  else bif two s p 36 123 then (bif pcOk s (p+2) then bodyM s (p+2+pcn s (p+2)+1) (fl out b++[pieceR s (p+2)]) [] else ⟨false,[],p+2⟩)
  else bodyM s (p+1) out (b++[s.getD p 0]):=by
 unfold bodyM
 conv=>lhs;simp only [bodyK]
 cases hb:Nat.blt p s.length with
 | false=>rfl
 | true =>
  rw [Nat.blt_eq] at hb
  rw [bodyK_any (s.length - p) (s.length - (p+2)+1) s (p+2) _ _ (by omega) (by omega),bodyK_any (s.length - p) (s.length - (p+2+pcn s (p+2)+1)+1) s (p+2+pcn s (p+2)+1) _ _ (by omega) (by omega),
   bodyK_any (s.length - p) (s.length - (p+1)+1) s (p+1) _ _ (by omega) (by omega)]
theorem psum_app (l r:List PartR):psum (l++r)=psum l+psum r:=by
 induction l with
 | nil=>simp [psum]
 | cons x l ih=>simp only [List.cons_append,psum,ih];omega
theorem psum_fl (out:List PartR) (b:Str):psum (fl out b)=psum out+b.length:=by
 cases b with
 | nil=>rfl
 | cons x b=>simp [fl,psum_app,psum]
theorem bodyM_in (s:Str):∀(n p:Nat) (out:List PartR) (b:Str),s.length - p=n→p≤s.length→p≤(bodyM s p out b).q∧(bodyM s p out b).q≤s.length∧((bodyM s p out b).ok=true→psum (bodyM s p out b).l+p≤psum out+b.length+(bodyM s p out b).q∧p < (bodyM s p out b).q):=by
 intro n
 induction n using Nat.strongRecOn with
 | _ n ih =>
  intro p out b hn hp
  rw [bodyM_eq]
  rcases Nat.lt_or_ge p s.length with h | h
  ·rw [blt_t h]
   simp only [Bool.not_true,cond_false]
   cases byt s p==34 with
   | true=>simp only [cond_true];rw [psum_fl];exact ⟨by omega,by omega,fun _=>⟨by omega,by omega⟩⟩
   | false =>
   cases byt s p==10 with
   | true=>simp only [cond_true,cond_false];exact ⟨by omega,by omega,fun h=>by simp at h⟩
   | false =>
   cases byt s p==92 with
   | true =>
    simp only [cond_true,cond_false]
    rcases Nat.lt_or_ge (p+1) s.length with h2 | h2
    ·rw [blt_t h2]
     simp only [Bool.not_true,cond_false]
     cases escB (byt s (p+1)) with
     | true =>
      have:=ih (s.length - (p+2)) (by omega) (p+2) out (b++[(escV (byt s (p+1))).toNat.toUInt8]) rfl (by omega)
      simp only [cond_true]
      refine ⟨by omega,by omega,fun ho=>?_⟩
      have h3:=this.2.2 ho
      rw [List.length_append,List.length_singleton] at h3
      omega
     | false=>simp only [cond_false];exact ⟨by omega,by omega,fun h=>by simp at h⟩
    ·rw [blt_f (by omega)];simp only [Bool.not_false,cond_true];exact ⟨by omega,by omega,fun h=>by simp at h⟩
   | false =>
   cases h36:two s p 36 123 with
   | true =>
    simp only [cond_true,cond_false]
    have hp2:p+2≤s.length:=by
     unfold two at h36
     rw [Bool.and_eq_true,beq_iff_eq,beq_iff_eq] at h36
     rcases Nat.lt_or_ge (p+1) s.length with h2 | h2
     ·omega
     ·have:=h36.2
      unfold byt at this
      rw [List.getD_eq_getElem?_getD,List.getElem?_eq_none (by omega)] at this
      simp at this
    cases hpc:pcOk s (p+2) with
    | true =>
     have hlt:=pcOk_lt hpc
     have:=ih (s.length - (p+2+pcn s (p+2)+1)) (by omega) (p+2+pcn s (p+2)+1) (fl out b++[pieceR s (p+2)]) [] rfl (by omega)
     simp only [cond_true]
     refine ⟨by omega,by omega,fun ho=>?_⟩
     have h3:=this.2.2 ho
     rw [psum_app,psum_fl] at h3
     have h4:psum [pieceR s (p+2)]≤pcn s (p+2):=by
      show (sl s (p+2) (pcn s (p+2))).length+0≤_
      unfold sl
      rw [List.length_take];omega
     simp only [List.length_nil] at h3
     omega
    | false=>simp only [cond_false];exact ⟨by omega,by omega,fun h=>by simp at h⟩
   | false =>
    have:=ih (s.length - (p+1)) (by omega) (p+1) out (b++[s.getD p 0]) rfl (by omega)
    simp only [cond_false]
    refine ⟨by omega,by omega,fun ho=>?_⟩
    have h3:=this.2.2 ho
    rw [List.length_append,List.length_singleton] at h3
    omega
  ·rw [blt_f (by omega)];simp only [Bool.not_false,cond_true];exact ⟨by omega,by omega,fun h=>by simp at h⟩
end Go.Proofs.YtcgbgcconigdbaaGreatDoor
namespace Go.Proofs.YtcgbgcconigdbaaGreatDoor
open Go.Eng
set_option maxRecDepth 100000
def qs:Str:=[34,123,125,10]
theorem anyQ_sound (s:Str) (h1:s.length≤100000):Snd 50 [.str s,.str qs] (dI (Lib.indexAny s qs)):=by
 refine snd_calls Tryz.func50 (by kernel_rfl) (by kernel_rfl) rfl fun w av vs hg hs hr=>?_
 obtain ⟨v0,v1,rfl⟩:∃v0 v1,vs=#[v0,v1]:=by
  obtain ⟨l⟩:=vs
  match l,hs with
  | [a,b],_=>exact ⟨a,b,rfl⟩
 have k0:=hr 0 _ _ rfl rfl
 have k1:=hr 1 _ _ rfl rfl
 cases k0 with
 | str a _ e0 _ =>
 cases k1 with
 | str b _ e1 _ =>
 subst e0
 obtain rfl:b=⟨#[34,123,125,10]⟩:=by
  obtain ⟨⟨l⟩⟩:=b
  have e1:l=[34,123,125,10]:=e1
  subst e1;rfl
 have hsz:∀a:ByteArray,a.data.toList.length=a.size:=fun a=>(Lib.size_eq a).symm
 rw [hsz] at h1
 have hac:∀z∈(⟨#[34,123,125,10]⟩:ByteArray).data.toList,z.toNat < 128:=by decide
 have hin:inR .i64 (Lib.indexAny a.data.toList qs)=true:=by
  have q1:=Lib.indexAny_ge qs a.data.toList
  have q2:=indexAny_le qs a.data.toList
  rw [hsz] at q2
  simp only [inR,Bool.and_eq_true]
  refine ⟨decide_eq_true ?_,decide_eq_true ?_⟩
  ·show (-9223372036854775808:Int)≤_;omega
  ·show _≤(9223372036854775807:Int);omega
 by_cases h8:a.size≤8
 ·exact (indexAny_short Tryz.lays153 a 34 123 125 10 w h8 hac).mono fun e w' ⟨he,hw⟩=>⟨_,he,.int _ _ hin,hw⟩
 ·have h116:(Tryz.prog.info? (Tryz.lays153_ren.t 116)).map (fun i=>(i.zero,i.size))=some (some (.agg (Array.replicate 256 (.bool false))),256):=by kernel_rfl
  refine (Any.strings_IndexAny_long Tryz.lays153 (Go.zero_of_info h116).1 (Go.zero_of_info h116).2 a ⟨#[34,123,125,10]⟩ w (by decide) (by omega) (by omega) (by decide) (fun j x hx=>hac x (List.mem_of_getElem? hx))).mono fun e w' ⟨he,hw⟩=>⟨_,he,.int _ _ hin,?_⟩
  rw [hw]
  exact ((RowKit.Below.refl _ _).alloc (Nat.le_refl _) _).alloc (by simp) _
theorem indexAny_ff:∀l:Str,Lib.indexAny l qs=bif Nat.blt (ff (fun i=>!(isQ (byt l i))) l.length) l.length then ((ff (fun i=>!(isQ (byt l i))) l.length:Nat):Int) else -1
 | []=>rfl
 | b::l=>by
  have ih:=indexAny_ff l
  have h0:isQ (byt (b::l) 0)=qs.contains b:=by
   have:∀n:Fin 256,isQ ((n.val:Nat):Int)=qs.contains (UInt8.ofNat n.val):=by decide +kernel
   have h:=this ⟨b.toNat,b.toNat_lt⟩
   rw [UInt8.ofNat_toNat] at h
   exact h
  have h1:(fun i=>!(isQ (byt (b::l) (i+1))))=(fun i=>!(isQ (byt l i))):=rfl
  simp only [Lib.indexAny,List.length_cons,ff,h0,h1]
  cases qs.contains b with
  | true =>
   simp [Nat.blt]
   rfl
  | false =>
   simp only [Bool.not_false,cond_true,Bool.false_eq_true,if_false]
   rw [ih]
   generalize ff (fun i=>!(isQ (byt l i))) l.length=k
   have e:Nat.blt (k+1) (l.length+1)=Nat.blt k l.length:=rfl
   rw [e]
   cases Nat.blt k l.length with
   | true =>
    simp only [cond_true]
    rw [if_neg (by rw [beq_iff_eq];omega)];rfl
   | false=>simp
end Go.Proofs.YtcgbgcconigdbaaGreatDoor
namespace Go.Proofs.YtcgbgcconigdbaaGreatDoor
open Go.Eng
theorem byt_out {s:Str} {p:Nat} (h:¬ p < s.length):byt s p=0:=by
 unfold byt
 rw [List.getD_eq_getElem?_getD,List.getElem?_eq_none (by omega)];rfl
theorem two_in {s:Str} {p:Nat} {a b:Int} (h:two s p a b=true) (hb:b≠0):p+1 < s.length:=by
 unfold two at h
 rw [Bool.and_eq_true,beq_iff_eq,beq_iff_eq] at h
 rcases Nat.lt_or_ge (p+1) s.length with h2 | h2
 ·exact h2
 ·rw [byt_out (show ¬ p+1 < s.length by omega)] at h
  exact absurd h.2.symm hb
theorem runM_pos {s:Str} {p:Nat} (hp:p < s.length) (h:allB (byt s p)=true):0 < runM s p:=by
 rcases ff_spec (s.length - p) (fun i=>allB (byt s (p+i))) with ⟨h1,_⟩ | ⟨_,h1,_⟩
 ·unfold runM;omega
 ·unfold runM
  rcases Nat.eq_zero_or_pos (ff (fun i=>allB (byt s (p+i))) (s.length - p)) with h0 | h0
  ·rw [h0,Nat.add_zero,h] at h1;cases h1
  ·exact h0
theorem twoS_cases (s:Str) (p:Nat):(twoS s p=[]∧two s p 61 61=false∧two s p 33 61=false∧two s p 60 61=false∧two s p 62 61=false∧two s p 38 38=false∧two s p 124 124=false∧two s p 61 62=false) ∨
  ∃a b:UInt8,twoS s p=[a,b]∧two s p (a.toNat:Int) (b.toNat:Int)=true∧b.toNat≠0:=by
 unfold twoS
 cases h1:two s p 61 61 with
 | true=>exact .inr ⟨61,61,rfl,h1,by decide⟩
 | false =>
 cases h2:two s p 33 61 with
 | true=>exact .inr ⟨33,61,rfl,h2,by decide⟩
 | false =>
 cases h3:two s p 60 61 with
 | true=>exact .inr ⟨60,61,rfl,h3,by decide⟩
 | false =>
 cases h4:two s p 62 61 with
 | true=>exact .inr ⟨62,61,rfl,h4,by decide⟩
 | false =>
 cases h5:two s p 38 38 with
 | true=>exact .inr ⟨38,38,rfl,h5,by decide⟩
 | false =>
 cases h6:two s p 124 124 with
 | true=>exact .inr ⟨124,124,rfl,h6,by decide⟩
 | false =>
 cases h7:two s p 61 62 with
 | true=>exact .inr ⟨61,62,rfl,h7,by decide⟩
 | false=>exact .inl ⟨rfl,rfl,rfl,rfl,rfl,rfl,rfl,rfl⟩
theorem tokO_in {s:Str} {p:Nat} (hp:p≤s.length) (he:((tokO s p).e==0)=true):(tokO s p).q≤s.length∧(tokO s p).t.p=posR s p ∧
  ((((tokO s p).t.kind==0)=true∧p=s.length)∨(((tokO s p).t.kind==0)=false∧p < (tokO s p).q)):=by
 unfold tokO at *
 cases hb:Nat.beq p s.length with
 | true=>exact ⟨hp,rfl,.inl ⟨rfl,Nat.eq_of_beq_eq_true hb⟩⟩
 | false =>
  have hlt:p < s.length:=by
   rcases Nat.lt_or_ge p s.length with h | h
   ·exact h
   ·obtain rfl:p=s.length:=by omega
    rw [Nat.beq_refl] at hb;cases hb
  rw [hb] at he
  have hr:=runM_le s p
  cases hl:letB (byt s p) with
  | true =>
   have:=runM_pos hlt (show allB (byt s p)=true by unfold allB;rw [hl];rfl)
   exact ⟨by show p+runM s p≤_;omega,rfl,.inr ⟨rfl,by show p < p+runM s p;omega⟩⟩
  | false =>
  cases hd:digB (byt s p) with
  | true =>
   have:=runM_pos hlt (show allB (byt s p)=true by unfold allB;rw [hd];simp)
   exact ⟨by show p+runM s p≤_;omega,rfl,.inr ⟨rfl,by show p < p+runM s p;omega⟩⟩
  | false =>
  cases hq:byt s p==34 with
  | true =>
   simp only [cond_false,cond_true,hl,hd,hq,textO] at he ⊢
   have hin:=bodyM_in s _ (p+1) [] [] rfl (by omega)
   cases ho:(bodyM s (p+1) [] []).ok with
   | false=>rw [ho] at he;cases he
   | true =>
    simp only [cond_true]
    exact ⟨hin.2.1,by first | rfl | trivial,.inr ⟨by first | rfl | trivial,by omega⟩⟩
  | false =>
   simp only [cond_false,hl,hd,hq,signO] at he ⊢
   rcases twoS_cases s p with ⟨h0,_⟩ | ⟨a,b,h0,h1,h2⟩
   ·rw [h0] at he ⊢
    cases h3:isOne (byt s p) with
    | true=>exact ⟨by show p+1≤_;omega,by first | rfl | trivial,.inr ⟨by first | rfl | trivial,by show p < p+1;omega⟩⟩
    | false=>rw [h3] at he;cases he
   ·rw [h0]
    have:=two_in h1 (by omega)
    exact ⟨by show p+2≤_;omega,by first | rfl | trivial,.inr ⟨by first | rfl | trivial,by show p < p+2;omega⟩⟩
inductive LexTo (s:Str):Nat→List TokR→Int→PosR→Prop
 | bad (p:Nat) (h:((tokO s (blankM s p)).e==0)=false):LexTo s p [] (tokO s (blankM s p)).e (posR s (blankM s p))
 | stop (p:Nat) (h:((tokO s (blankM s p)).e==0)=true) (hk:((tokO s (blankM s p)).t.kind==0)=true):LexTo s p [(tokO s (blankM s p)).t] 0 ⟨0,0,0⟩
 | go (p:Nat) (l:List TokR) (h:((tokO s (blankM s p)).e==0)=true) (hk:((tokO s (blankM s p)).t.kind==0)=false) (hl:LexTo s (tokO s (blankM s p)).q l 0 ⟨0,0,0⟩):LexTo s p ((tokO s (blankM s p)).t::l) 0 ⟨0,0,0⟩
 | goBad (p:Nat) (e:Int) (bp:PosR) (h:((tokO s (blankM s p)).e==0)=true) (hk:((tokO s (blankM s p)).t.kind==0)=false) (he:(e==0)=false) (hl:LexTo s (tokO s (blankM s p)).q [] e bp):LexTo s p [] e bp
theorem lexTo_zero {s:Str} {p:Nat} {l:List TokR} {bp:PosR} (h:LexTo s p l 0 bp):bp=⟨0,0,0⟩∧l≠[]:=by
 generalize he:(0:Int)=e at h
 cases h with
 | bad _ h=>rw [←he] at h;simp at h
 | stop=>exact ⟨rfl,by simp⟩
 | go=>exact ⟨rfl,by simp⟩
 | goBad _ _ _ _ _ h=>rw [←he] at h;simp at h
theorem lexTo_bad {s:Str} {p:Nat} {l:List TokR} {e:Int} {bp:PosR} (h:LexTo s p l e bp) (he:(e==0)=false):l=[]:=by
 cases h with
 | bad=>rfl
 | stop=>simp at he
 | go=>simp at he
 | goBad=>rfl
theorem allK_to (s:Str):∀(k p:Nat) (acc:List TokR),p≤s.length→s.length - p < k→∃l e bp,LexTo s p l e bp∧allK k s p acc=⟨bif e==0 then acc++l else [],e,bp⟩
 | 0,p,acc,_,h=>by omega
 | k+1,p,acc,hp,hk=>by
  have hb:=blankM_in s _ p rfl hp
  simp only [allK]
  cases he:(tokO s (blankM s p)).e==0 with
  | false=>exact ⟨[],_,_,.bad p he,by rw [he];rfl⟩
  | true =>
   obtain ⟨h1,_,h2⟩:=tokO_in hb.2 he
   rcases h2 with ⟨h2,h3⟩ | ⟨h2,h3⟩
   ·rw [h2];exact ⟨_,_,_,.stop p he h2,rfl⟩
   ·rw [h2]
    obtain ⟨l,e,bp,h4,h5⟩:=allK_to s k (tokO s (blankM s p)).q (acc++[(tokO s (blankM s p)).t]) h1 (by omega)
    simp only [Bool.not_true,cond_false]
    rw [h5]
    cases h6:e==0 with
    | true =>
     rw [beq_iff_eq] at h6
     subst h6
     obtain rfl:=(lexTo_zero h4).1
     exact ⟨_,_,_,.go p l he h2 h4,by simp⟩
    | false =>
     obtain rfl:=lexTo_bad h4 h6
     exact ⟨_,_,_,.goBad p e bp he h2 h6 h4,by rw [h6];rfl⟩
theorem to_allK {s:Str} {p:Nat} {l:List TokR} {e:Int} {bp:PosR} (h:LexTo s p l e bp):p≤s.length→∀(k:Nat) (acc:List TokR),s.length - p < k→allK k s p acc=⟨bif e==0 then acc++l else [],e,bp⟩:=by
 induction h with
 | bad p h=>intro hp k acc hk;obtain ⟨k,rfl⟩:∃j,k=j+1:=⟨k - 1,by omega⟩;simp only [allK,h];rfl
 | stop p h hk=>intro hp k acc hk';obtain ⟨k,rfl⟩:∃j,k=j+1:=⟨k - 1,by omega⟩;simp only [allK,h,hk];rfl
 | go p l h hk hl ih =>
  intro hp k acc hk'
  obtain ⟨k,rfl⟩:∃j,k=j+1:=⟨k - 1,by omega⟩
  have hb:=blankM_in s _ p rfl hp
  obtain ⟨h1,_,h2⟩:=tokO_in hb.2 h
  have hq:p < (tokO s (blankM s p)).q:=by
   rcases h2 with ⟨h2,_⟩ | ⟨_,h2⟩
   ·rw [hk] at h2;cases h2
   ·omega
  simp only [allK,h,hk,Bool.not_true,cond_false]
  rw [ih h1 k _ (by omega)]
  simp
 | goBad p e bp h hk he hl ih =>
  intro hp k acc hk'
  obtain ⟨k,rfl⟩:∃j,k=j+1:=⟨k - 1,by omega⟩
  have hb:=blankM_in s _ p rfl hp
  obtain ⟨h1,_,h2⟩:=tokO_in hb.2 h
  have hq:p < (tokO s (blankM s p)).q:=by
   rcases h2 with ⟨h2,_⟩ | ⟨_,h2⟩
   ·rw [hk] at h2;cases h2
   ·omega
  simp only [allK,h,hk,Bool.not_true,cond_false]
  rw [ih h1 k _ (by omega),he]
  rfl
end Go.Proofs.YtcgbgcconigdbaaGreatDoor
