/-
  THE DOCUMENT's LEXER, plainly: what stands between tokens, a token, all tokens; laws of these.
-/
import Derived.Test.YtlnkjdedeegajaaGreatDoorLib
namespace Go.Proofs.YtlnkjdedeegajaaGreatDoor.Nu
open Go.Eng
set_option maxRecDepth 100000
abbrev w64 (z:Int):Int:=IntKind.u64.wrap z
abbrev i64 (z:Int):Int:=IntKind.i64.wrap z
def prT (p:Int×Int):D Pl:=.tup [dI p.1,dI p.2]
def badD (c:Int):Bool:=bif decide (c < 48) then true else decide (c > 57)
def allB (P:Int→Bool) (s:Str):Bool:=(List.range s.length).all fun i=>P (byt s i)
def digB (s:Str):Bool:=allB (fun c=>!(badD c)) s
def t1 (s:Str):Str:=List.take (((s.length:Int)).toNat - Int.toNat 1) (List.drop (Int.toNat 1) s)
theorem t1_eq (s:Str):t1 s=s.drop 1:=by
  unfold t1
  rw [show Int.toNat 1=1 from rfl,show ((s.length:Int)).toNat=s.length from rfl]
  exact List.take_of_length_le (by simp)
theorem t1_len (s:Str):(t1 s).length=s.length - 1:=by rw [t1_eq,List.length_drop]
def s18a (e:Int) (b:Bool) (d:Str) (i:Int):St Pl:=mkS 90 [(2,dI 0),(3,dI e),(4,.bool b),(5,.str d),(6,dI i)] []
def r18a (e:Int) (b:Bool) (d:Str):St Pl:=mkS 90 [(2,dI 0),(3,dI e),(4,.bool b),(5,.str d)] []
theorem b18a (b:Bool) (d:Str) (i:Nat):evC tell0 noTL noL 1 (loopAt 20 0) [2,3,4,5,6] (s18a 0 b d i) =
    lt_ i d.length (ix_ i d.length (ixo_ i d.length (decide (byt d i < 48)==false) (bif badD (byt d i) then some (.ret,s18a 4 b d i) else some (.normal,s18a 0 b d (IntKind.i64.wrap ((i:Int)+1)))))) (some (.exit 0,s18a 0 b d i)):=by kernel_rfl
theorem ids18:(loopsAt 20).length=2∧firstId (loopAt 20 0)=8∧loopsOf (loopAt 20 0)=[]∧firstId (loopAt 20 1)=14∧loopsOf (loopAt 20 1)=[]:=⟨by kernel_rfl,by kernel_rfl,by kernel_rfl,by kernel_rfl,by kernel_rfl⟩
def LS18a (S:St Pl):Option (Bool×LR Pl):=match seenS 90 [2,3,4,5,6] S with
  | some ([.int .i64 (.ofNat 0),.int .i64 (.ofNat 0),.bool b,.str d,.int .i64 (.ofNat 0)],[])=>some (Nat.ble d.length big,.ite (digB d) (.leaf (.exit 0) (r18a 0 b d)) (.leaf .ret (r18a 4 b d)))
  | _=>none
theorem LS18a_ok:SOk X0 (loopAt 20 0) LS18a:=by
  intro S b r h hb
  unfold LS18a at h
  split at h
  · rename_i c d hs
    simp only [Option.some.injEq,Prod.mk.injEq] at h
    obtain ⟨rfl,rfl⟩:=h
    rw [Nat.ble_eq] at hb
    refine Goes.pre (keepOf [2,3,4,5,6]) ?_
    rw [seenS_mask hs]
    exact search_of (tell0_ok _) ids18.2.2.1 (Sf:=fun i=>s18a 0 c d i) (S2':=fun i=>s18a 4 c d i) (keep2:=[2,3,4,5]) (p:=fun i=>!(badD (byt d i))) (by simp) (by simp)
      (fun i hi=>by
        rw [b18a,lt_t hi,ix_t hi,wrap_nat (show i≤big by omega),ixo_t hi]
        cases badD (byt d i)<;>rfl) (by rw [b18a,lt_f (by omega)]) rfl (fun i=>rfl)
  · simp at h
def cv (d:Str) (i:Nat):Int:=w64 (IntKind.u8.wrap (byt d i - 48))
def uAt (d:Str):Nat→Int
  | 0=>0
  | i+1=>w64 (w64 (uAt d i * 10)+cv d i)
def tooU (d:Str) (u:Int):Bool:=bif decide ((d.length:Int) > 19) then true else decide (u > 922337203685477580)
def fitU (d:Str):Bool:=(List.range d.length).all fun i=>!(tooU d (uAt d i))
def s18b (e:Int) (b:Bool) (d:Str) (u:Int) (i:Int):St Pl:=mkS 90 [(2,dI 0),(3,dI e),(4,.bool b),(5,.str d),(7,.int .u64 u),(8,dI i)] []
def r18b (b:Bool) (u:Int):St Pl:=mkS 90 [(4,.bool b),(7,.int .u64 u)] []
def r18c:St Pl:=mkS 90 [(2,dI 0),(3,dI 6)] []
theorem b18b (b:Bool) (d:Str) (u:Int) (i:Nat):evC tell0 noTL noL 1 (loopAt 20 1) [2,3,4,5,7,8] (s18b 0 b d u i) =
    lt_ i d.length (ix_ i d.length (bif tooU d u then some (.ret,s18b 6 b d u i) else some (.normal,s18b 0 b d (w64 (w64 (u * 10)+cv d i)) (IntKind.i64.wrap ((i:Int)+1))))) (some (.exit 2,s18b 0 b d u i)):=by kernel_rfl
def LS18b (S:St Pl):Option (Bool×LR Pl):=match seenS 90 [2,3,4,5,7,8] S with
  | some ([.int .i64 (.ofNat 0),.int .i64 (.ofNat 0),.bool b,.str d,.int .u64 (.ofNat 0),.int .i64 (.ofNat 0)],[])=>some (Nat.ble d.length big,.ite (fitU d) (.leaf (.exit 2) (r18b b (uAt d d.length))) (.leaf .ret r18c))
  | _=>none
theorem LS18b_ok:SOk X0 (loopAt 20 1) LS18b:=by
  intro S b r h hb
  unfold LS18b at h
  split at h
  · rename_i c d hs
    simp only [Option.some.injEq,Prod.mk.injEq] at h
    obtain ⟨rfl,rfl⟩:=h
    rw [Nat.ble_eq] at hb
    refine Goes.pre (keepOf [2,3,4,5,7,8]) ?_
    rw [seenS_mask hs]
    have hR:=tell0_ok X0
    refine loop_search (Sf:=fun i=>s18b 0 c d (uAt d i) i) (p:=fun i=>!(tooU d (uAt d i))) (by simp) (by simp) (fun i hi hp=>?_) (fun i hi hp=>?_) ?_
    · refine goes_of (keep:=[2,3,4,5,7,8]) hR (noTL_ok _ _) (noLoops ids18.2.2.2.2) ((b18b c d (uAt d i) i).trans ?_)
      rw [lt_t hi,ix_t hi,wrap_nat (show i≤big by omega),show tooU d (uAt d i)=false by simpa using hp]
      rfl
    · have:=(goes_of (keep:=[2,3,4,5,7,8]) (S':=s18b 6 c d (uAt d i) i) hR (noTL_ok _ _) (noLoops ids18.2.2.2.2) ((b18b c d (uAt d i) i).trans (by
        rw [lt_t hi,ix_t hi,show tooU d (uAt d i)=true by simpa using hp];rfl))).post (keepOf [2,3])
      exact this
    · have:=(goes_of (keep:=[2,3,4,5,7,8]) (S':=s18b 0 c d (uAt d d.length) d.length) hR (noTL_ok _ _) (noLoops ids18.2.2.2.2) ((b18b c d (uAt d d.length) d.length).trans (by
        rw [lt_f (by omega)]))).post (keepOf [4,7])
      exact this
  · simp at h
def neg0 (s:Str):Bool:=bif decide ((s.length:Int) > 0) then byt s 0==45 else false
def zl (b:Bool) (d:Str):Bool:=bif d==[] then true else bif byt d 0==48 then (bif b then true else decide ((d.length:Int) > 1)) else false
def fin (b:Bool) (u:Int):Option (D Pl):=bif (bif b then decide (u≤9223372036854775808) else false) then some (.tup [dI (i64 (w64 (0 - u))),dI 0])
  else bif (bif b then true else decide (u > 9223372036854775807)) then some (.tup [dI 0,dI 6]) else some (.tup [dI (i64 u),dI 0])
def rest (b:Bool) (d:Str):Option (D Pl):=ck_ ((true&&decide ((0:Int) < (d.length:Int)))||!((d==[])==false)) (bif zl b d then some (.tup [dI 0,dI 4])
  else ck_ (Nat.ble d.length big) (bif digB d then ck_ (Nat.ble d.length big) (bif fitU d then fin b (uAt d d.length) else some (.tup [dI 0,dI 6])) else some (.tup [dI 0,dI 4])))
theorem e18 (s:Str):evF tell0 noTL (atL 8 LS18a (atL 14 LS18b noL)) 1 Tryz.f20 [.str s]=ck_ ((true&&decide ((0:Int) < (s.length:Int)))||!(decide ((s.length:Int) > 0)==true))
    (bif neg0 s then ck_ ((true&&decide ((1:Int)≤(s.length:Int))&&decide ((s.length:Int)≤(s.length:Int)))||false) (rest (neg0 s) (t1 s)) else rest (neg0 s) s):=by kernel_rfl
def finV (b:Bool) (u:Int):Int×Int:=bif (bif b then decide (u≤9223372036854775808) else false) then (i64 (w64 (0 - u)),0) else bif (bif b then true else decide (u > 9223372036854775807)) then (0,6) else (i64 u,0)
def restV (b:Bool) (d:Str):Int×Int:=bif zl b d then (0,4) else bif digB d then (bif fitU d then finV b (uAt d d.length) else (0,6)) else (0,4)
def refParseV (s:Str):Int×Int:=restV (neg0 s) (bif neg0 s then t1 s else s)
theorem rest_eq {b:Bool} {d:Str} (h:d.length≤big):rest b d=some (prT (restV b d)):=by
  unfold rest
  rw [ck_t (by
    cases d with
    | nil=>rfl
    | cons a r=>rw [decide_eq_true (show (0:Int) < ((a::r).length:Int) by simp only [List.length_cons];omega)];rfl),ck_t (ble_t h),ck_t (ble_t h)]
  unfold restV fin finV
  generalize (bif b then decide (uAt d d.length≤9223372036854775808) else false)=x
  generalize (bif b then true else decide (uAt d d.length > 9223372036854775807))=y
  cases zl b d<;>cases digB d<;>cases fitU d<;>cases x<;>cases y<;>rfl
theorem refParse_sound (s:Str):Snd 20 [.str s] (prT (refParseV s)):=by
  refine SoundAt.rooms fun hroom=>snd_fn (n:=1) (tell0_ok _) (noTL_ok _ _) (fn:=Tryz.f20) (by kernel_rfl) (loops_of (fn:=Tryz.f20) (by kernel_rfl)
    (loops_2 ids18.1 (atL_ok (fun _=>LS18a_ok) fun h=>absurd ids18.2.1 h) (atL_ok (fun h=>absurd (h.symm.trans ids18.2.2.2.1) (by decide)) fun _=>atL_ok (fun _=>LS18b_ok) fun h=>absurd ids18.2.2.2.1 h))) ((e18 s).trans ?_)
  have h1:s.length≤big:=hroom (.str s) (by simp)
  have h2:(t1 s).length≤big:=by rw [t1_len];omega
  rw [rest_eq h1,rest_eq h2,ck_t (by
    by_cases h:s.length > 0
    · rw [decide_eq_true (show (0:Int) < (s.length:Int) by omega)];rfl
    · rw [decide_eq_false (show ¬ (s.length:Int) > 0 by omega)];cases decide ((0:Int) < (s.length:Int))<;>rfl)]
  unfold refParseV
  cases hn:neg0 s with
  | false=>rfl
  | true =>
    have hl:s.length > 0:=by
      unfold neg0 at hn
      by_cases h:s.length > 0
      · exact h
      · rw [decide_eq_false (show ¬ (s.length:Int) > 0 by omega)] at hn;cases hn
    rw [ck_t (by rw [decide_eq_true (show (1:Int)≤(s.length:Int) by omega),decide_eq_true (show (s.length:Int)≤(s.length:Int) by omega)];rfl)]
    rfl
end Go.Proofs.YtlnkjdedeegajaaGreatDoor.Nu
namespace Go.Proofs.YtlnkjdedeegajaaGreatDoor
open Go.Eng
def letB (c:Int):Bool:=(decide (97≤c)&&decide (c≤122))||c==95
def digB' (c:Int):Bool:=decide (48≤c)&&decide (c≤57)
def allB (c:Int):Bool:=letB c||digB' c
def runM (s:Str) (p:Nat):Nat:=ff (fun i=>allB (byt s (p+i))) (s.length - p)
theorem runM_le (s:Str) (p:Nat):runM s p≤s.length - p:=by
  rcases ff_spec (s.length - p) (fun i=>allB (byt s (p+i))) with ⟨h,_⟩ | ⟨h,_⟩<;>unfold runM<;>omega
def escV (c:Int):Int:=bif c==34 then c else bif c==92 then c else bif c==36 then c else bif c==110 then 10 else bif c==116 then 9 else 0
def escB (c:Int):Bool:=bif c==34 then true else bif c==92 then true else bif c==36 then true else bif c==110 then true else bif c==116 then true else false
def w64 (z:Int):Int:=IntKind.i64.wrap z
def ln (s:Str):Nat→Int
  | 0=>1
  | p+1=>bif byt s p==10 then ln s p+1 else ln s p
def sn (s:Str):Nat→Int
  | 0=>0
  | p+1=>bif byt s p==10 then (p:Int)+1 else sn s p
theorem ln_in (s:Str):∀p,1≤ln s p∧ln s p≤(p:Int)+1
  | 0=>⟨Int.le_refl 1,by simp [ln]⟩
  | p+1=>by
    have h:=ln_in s p
    simp only [ln]
    cases byt s p==10<;>simp only [cond_true,cond_false]<;>omega
theorem sn_in (s:Str):∀p,0≤sn s p∧sn s p≤(p:Int)
  | 0=>⟨Int.le_refl 0,by simp [sn]⟩
  | p+1=>by
    have h:=sn_in s p
    simp only [sn]
    cases byt s p==10<;>simp only [cond_true,cond_false]<;>omega
theorem byt_drop (s:Str) (p i:Nat):byt (s.drop p) i=byt s (p+i):=by
  unfold byt
  rw [List.getD_eq_getElem?_getD,List.getD_eq_getElem?_getD,List.getElem?_drop]
def isB (c:Int):Bool:=c==32||(c==10||c==9)
def cmt (s:Str) (p:Nat):Nat:=ff (fun i=>!(byt (s.drop p) i==10)) (s.drop p).length
theorem cmt_le (s:Str) (p:Nat):cmt s p≤s.length - p:=by
  rcases ff_spec (s.drop p).length (fun i=>!(byt (s.drop p) i==10)) with ⟨h,_⟩ | ⟨h,_⟩<;>unfold cmt<;>rw [List.length_drop] at *<;>omega
theorem cmt_pos {s:Str} {p:Nat} (hp:p < s.length) (hb:(byt s p==35)=true):0 < cmt s p:=by
  have hl:0 < (s.drop p).length:=by rw [List.length_drop];omega
  rcases ff_spec (s.drop p).length (fun i=>!(byt (s.drop p) i==10)) with ⟨h,_⟩ | ⟨_,h,_⟩
  · unfold cmt;omega
  · unfold cmt
    rcases Nat.eq_zero_or_pos (ff (fun i=>!(byt (s.drop p) i==10)) (s.drop p).length) with h0 | h0
    · rw [h0,byt_drop,Nat.add_zero] at h
      rw [beq_iff_eq] at hb
      rw [hb] at h
      simp at h
    · exact h0
def blk:Nat→Str→Nat→Nat
  | 0,_,p=>p
  | k+1,s,p=>bif Nat.blt p s.length then (bif isB (byt s p) then blk k s (p+1) else bif byt s p==35 then blk k s (p+cmt s p) else p) else p
def blankM (s:Str) (p:Nat):Nat:=blk (s.length - p) s p
theorem blk_any:∀(k k':Nat) (s:Str) (p:Nat),s.length - p≤k→s.length - p≤k'→blk k s p=blk k' s p
  | 0,0,_,_,_,_=>rfl
  | 0,k'+1,s,p,h,_=>by
    have hb:Nat.blt p s.length=false:=by
      cases hb:Nat.blt p s.length with
      | false=>rfl
      | true=>rw [Nat.blt_eq] at hb;omega
    simp [blk,hb]
  | k+1,0,s,p,_,h=>by
    have hb:Nat.blt p s.length=false:=by
      cases hb:Nat.blt p s.length with
      | false=>rfl
      | true=>rw [Nat.blt_eq] at hb;omega
    simp [blk,hb]
  | k+1,k'+1,s,p,h,h'=>by
    simp only [blk]
    cases hb:Nat.blt p s.length with
    | false=>rfl
    | true =>
      rw [Nat.blt_eq] at hb
      simp only [cond_true]
      cases hB:isB (byt s p) with
      | true=>exact blk_any k k' s (p+1) (by omega) (by omega)
      | false =>
        cases hc:byt s p==35 with
        | true =>
          have:=cmt_pos hb hc
          exact blk_any k k' s (p+cmt s p) (by omega) (by omega)
        | false=>rfl
theorem blankM_end {s:Str} {p:Nat} (h:¬ p < s.length):blankM s p=p:=by
  unfold blankM
  rw [show s.length - p=0 by omega];rfl
theorem blankM_eq {s:Str} {p:Nat} (h:p < s.length):blankM s p=bif isB (byt s p) then blankM s (p+1) else bif byt s p==35 then blankM s (p+cmt s p) else p:=by
  unfold blankM
  obtain ⟨k,hk⟩:∃k,s.length - p=k+1:=⟨s.length - p - 1,by omega⟩
  rw [hk]
  simp only [blk]
  rw [blt_t h,cond_true]
  cases hB:isB (byt s p) with
  | true=>exact blk_any _ _ _ _ (by omega) (by omega)
  | false =>
    cases hc:byt s p==35 with
    | true =>
      have:=cmt_pos h hc
      exact blk_any _ _ _ _ (by omega) (by omega)
    | false=>rfl
theorem blankM_in (s:Str):∀(n p:Nat),s.length - p=n→p≤s.length→p≤blankM s p∧blankM s p≤s.length:=by
  intro n
  induction n using Nat.strongRecOn with
  | _ n ih =>
    intro p hn hp
    rcases Nat.lt_or_ge p s.length with h | h
    · rw [blankM_eq h]
      cases hB:isB (byt s p) with
      | true =>
        have:=ih (s.length - (p+1)) (by omega) (p+1) rfl (by omega)
        simp only [cond_true];omega
      | false =>
        cases hc:byt s p==35 with
        | true =>
          have h1:=cmt_pos h hc
          have h2:=cmt_le s p
          have:=ih (s.length - (p+cmt s p)) (by omega) (p+cmt s p) rfl (by omega)
          simp only [cond_true,cond_false];omega
        | false=>simp only [cond_false];omega
    · rw [blankM_end (by omega)];omega
def nuV (s:Str):Int×Int:=Nu.refParseV s
def posR (s:Str) (p:Nat):PosR:=⟨p,ln s p,(p:Int) - sn s p+1⟩
def tok0 (s:Str) (p:Nat):TokR:=⟨0,[],0,[],posR s p⟩
def sl (s:Str) (p n:Nat):Str:=(s.drop p).take n
structure TOut where
  t:TokR
  q:Nat
  e:Int
def nameO (s:Str) (p:Nat):TOut:=⟨⟨1,sl s p (runM s p),0,[],posR s p⟩,p+runM s p,bif decide ((runM s p:Int) > 24) then 3 else 0⟩
def numO (s:Str) (p:Nat):TOut:=⟨⟨2,[],(nuV (sl s p (runM s p))).1,[],posR s p⟩,p+runM s p,(nuV (sl s p (runM s p))).2⟩
def two (s:Str) (p:Nat) (a b:Int):Bool:=byt s p==a&&byt s (p+1)==b
def twoS (s:Str) (p:Nat):Str:=bif two s p 61 61 then [61,61] else bif two s p 33 61 then [33,61] else bif two s p 60 61 then [60,61] else bif two s p 62 61 then [62,61] else
  bif two s p 38 38 then [38,38] else bif two s p 124 124 then [124,124] else bif two s p 61 62 then [61,62] else []
def onesS:Str:=[123,125,91,93,40,41,61,44,46,58,63,33,60,62,43,45,42,47,37]
def isOne (c:Int):Bool:=onesS.any fun x=>(x.toNat:Int)==c
def signO (s:Str) (p:Nat):TOut:=match twoS s p with
  | []=>bif isOne (byt s p) then ⟨⟨4,sl s p 1,0,[],posR s p⟩,p+1,0⟩ else ⟨⟨4,[],0,[],posR s p⟩,p,23⟩
  | x::l=>⟨⟨4,x::l,0,[],posR s p⟩,p+2,0⟩
structure BodyO where
  ok:Bool
  l:List PartR
  q:Nat
def fl (out:List PartR):Str→List PartR
  | []=>out
  | x::b=>out++[⟨false,x::b,⟨0,0,0⟩⟩]
def isQ (c:Int):Bool:=c==34||(c==123||(c==125||c==10))
def pcn (s:Str) (p:Nat):Nat:=ff (fun i=>!(isQ (byt (s.drop p) i))) (s.drop p).length
def pcOk (s:Str) (p:Nat):Bool:=Nat.blt (pcn s p) (s.drop p).length&&byt s (p+pcn s p)==125
def pieceR (s:Str) (p:Nat):PartR:=⟨true,sl s p (pcn s p),posR s p⟩
def bodyK:Nat→Str→Nat→List PartR→Str→BodyO
  | 0,_,p,_,_=>⟨false,[],p⟩
  | k+1,s,p,out,b =>
    bif !(Nat.blt p s.length) then ⟨false,[],p⟩
    else bif byt s p==34 then ⟨true,fl out b,p+1⟩
    else bif byt s p==10 then ⟨false,[],p⟩
    else bif byt s p==92 then (bif !(Nat.blt (p+1) s.length) then ⟨false,[],p⟩ else bif escB (byt s (p+1)) then bodyK k s (p+2) out (b++[(escV (byt s (p+1))).toNat.toUInt8]) else ⟨false,[],p⟩)
    else bif two s p 36 123 then (bif pcOk s (p+2) then bodyK k s (p+2+pcn s (p+2)+1) (fl out b++[pieceR s (p+2)]) [] else ⟨false,[],p+2⟩)
    else bodyK k s (p+1) out (b++[s.getD p 0])
def bodyM (s:Str) (p:Nat) (out:List PartR) (b:Str):BodyO:=bodyK (s.length - p+1) s p out b
def psum:List PartR→Nat
  | []=>0
  | x::l=>x.s.length+psum l
def textO (s:Str) (p:Nat):TOut:=bif (bodyM s (p+1) [] []).ok
  then ⟨⟨3,[],0,(bodyM s (p+1) [] []).l,posR s p⟩,(bodyM s (p+1) [] []).q,bif decide ((psum (bodyM s (p+1) [] []).l:Int) > 1024) then 3 else 0⟩
  else ⟨tok0 s p,(bodyM s (p+1) [] []).q,4⟩
def tokO (s:Str) (p:Nat):TOut:=bif Nat.beq p s.length then ⟨tok0 s p,p,0⟩ else bif letB (byt s p) then nameO s p else bif digB' (byt s p) then numO s p else bif byt s p==34 then textO s p else signO s p
structure AllO where
  l:List TokR
  bad:Int
  bp:PosR
def allK:Nat→Str→Nat→List TokR→AllO
  | 0,_,_,_=>⟨[],0,⟨0,0,0⟩⟩
  | k+1,s,p,acc=>bif !((tokO s (blankM s p)).e==0) then ⟨[],(tokO s (blankM s p)).e,posR s (blankM s p)⟩
    else bif (tokO s (blankM s p)).t.kind==0 then ⟨acc++[(tokO s (blankM s p)).t],0,⟨0,0,0⟩⟩
    else allK k s (tokO s (blankM s p)).q (acc++[(tokO s (blankM s p)).t])
def allM (s:Str):AllO:=bif Nat.blt 32768 s.length then ⟨[],3,posR s 0⟩ else allK (s.length+1) s 0 []
theorem blt_f {a b:Nat} (h:¬ a < b):Nat.blt a b=false:=by
  cases hb:Nat.blt a b with
  | false=>rfl
  | true=>rw [Nat.blt_eq] at hb;omega
theorem pcn_le (s:Str) (p:Nat):pcn s p≤s.length - p:=by
  rcases ff_spec (s.drop p).length (fun i=>!(isQ (byt (s.drop p) i))) with ⟨h,_⟩ | ⟨h,_⟩<;>unfold pcn<;>rw [List.length_drop] at *<;>omega
theorem pcOk_lt {s:Str} {p:Nat} (h:pcOk s p=true):p+pcn s p < s.length:=by
  unfold pcOk at h
  rw [Bool.and_eq_true,Nat.blt_eq,List.length_drop] at h
  omega
theorem bodyK_any:∀(k k':Nat) (s:Str) (p:Nat) (out:List PartR) (b:Str),s.length - p < k→s.length - p < k'→bodyK k s p out b=bodyK k' s p out b
  | 0,_,_,_,_,_,h,_=>by omega
  | _+1,0,_,_,_,_,_,h=>by omega
  | k+1,k'+1,s,p,out,b,h,h'=>by
    simp only [bodyK]
    cases hb:Nat.blt p s.length with
    | false=>rfl
    | true =>
      rw [Nat.blt_eq] at hb
      rw [bodyK_any k k' s (p+2) _ _ (by omega) (by omega),bodyK_any k k' s (p+2+pcn s (p+2)+1) _ _ (by omega) (by omega),bodyK_any k k' s (p+1) _ _ (by omega) (by omega)]
theorem bodyM_eq {s:Str} {p:Nat} (out:List PartR) (b:Str):bodyM s p out b =
    bif !(Nat.blt p s.length) then ⟨false,[],p⟩
    else bif byt s p==34 then ⟨true,fl out b,p+1⟩
    else bif byt s p==10 then ⟨false,[],p⟩
    else bif byt s p==92 then (bif !(Nat.blt (p+1) s.length) then ⟨false,[],p⟩ else bif escB (byt s (p+1)) then bodyM s (p+2) out (b++[(escV (byt s (p+1))).toNat.toUInt8]) else ⟨false,[],p⟩)
    else bif two s p 36 123 then (bif pcOk s (p+2) then bodyM s (p+2+pcn s (p+2)+1) (fl out b++[pieceR s (p+2)]) [] else ⟨false,[],p+2⟩)
    else bodyM s (p+1) out (b++[s.getD p 0]):=by
  unfold bodyM
  conv=>lhs;simp only [bodyK]
  cases hb:Nat.blt p s.length with
  | false=>rfl
  | true =>
    rw [Nat.blt_eq] at hb
    rw [bodyK_any (s.length - p) (s.length - (p+2)+1) s (p+2) _ _ (by omega) (by omega),bodyK_any (s.length - p) (s.length - (p+2+pcn s (p+2)+1)+1) s (p+2+pcn s (p+2)+1) _ _ (by omega) (by omega),
      bodyK_any (s.length - p) (s.length - (p+1)+1) s (p+1) _ _ (by omega) (by omega)]
theorem psum_app (l r:List PartR):psum (l++r)=psum l+psum r:=by
  induction l with
  | nil=>simp [psum]
  | cons x l ih=>simp only [List.cons_append,psum,ih];omega
theorem psum_fl (out:List PartR) (b:Str):psum (fl out b)=psum out+b.length:=by
  cases b with
  | nil=>rfl
  | cons x b=>simp [fl,psum_app,psum]
theorem bodyM_in (s:Str):∀(n p:Nat) (out:List PartR) (b:Str),s.length - p=n→p≤s.length→p≤(bodyM s p out b).q∧(bodyM s p out b).q≤s.length∧((bodyM s p out b).ok=true→psum (bodyM s p out b).l+p≤psum out+b.length+(bodyM s p out b).q∧p < (bodyM s p out b).q):=by
  intro n
  induction n using Nat.strongRecOn with
  | _ n ih =>
    intro p out b hn hp
    rw [bodyM_eq]
    rcases Nat.lt_or_ge p s.length with h | h
    · rw [blt_t h]
      simp only [Bool.not_true,cond_false]
      cases byt s p==34 with
      | true=>simp only [cond_true];rw [psum_fl];exact ⟨by omega,by omega,fun _=>⟨by omega,by omega⟩⟩
      | false =>
      cases byt s p==10 with
      | true=>simp only [cond_true,cond_false];exact ⟨by omega,by omega,fun h=>by simp at h⟩
      | false =>
      cases byt s p==92 with
      | true =>
        simp only [cond_true,cond_false]
        rcases Nat.lt_or_ge (p+1) s.length with h2 | h2
        · rw [blt_t h2]
          simp only [Bool.not_true,cond_false]
          cases escB (byt s (p+1)) with
          | true =>
            have:=ih (s.length - (p+2)) (by omega) (p+2) out (b++[(escV (byt s (p+1))).toNat.toUInt8]) rfl (by omega)
            simp only [cond_true]
            refine ⟨by omega,by omega,fun ho=>?_⟩
            have h3:=this.2.2 ho
            rw [List.length_append,List.length_singleton] at h3
            omega
          | false=>simp only [cond_false];exact ⟨by omega,by omega,fun h=>by simp at h⟩
        · rw [blt_f (by omega)];simp only [Bool.not_false,cond_true];exact ⟨by omega,by omega,fun h=>by simp at h⟩
      | false =>
      cases h36:two s p 36 123 with
      | true =>
        simp only [cond_true,cond_false]
        have hp2:p+2≤s.length:=by
          unfold two at h36
          rw [Bool.and_eq_true,beq_iff_eq,beq_iff_eq] at h36
          rcases Nat.lt_or_ge (p+1) s.length with h2 | h2
          · omega
          · have:=h36.2
            unfold byt at this
            rw [List.getD_eq_getElem?_getD,List.getElem?_eq_none (by omega)] at this
            simp at this
        cases hpc:pcOk s (p+2) with
        | true =>
          have hlt:=pcOk_lt hpc
          have:=ih (s.length - (p+2+pcn s (p+2)+1)) (by omega) (p+2+pcn s (p+2)+1) (fl out b++[pieceR s (p+2)]) [] rfl (by omega)
          simp only [cond_true]
          refine ⟨by omega,by omega,fun ho=>?_⟩
          have h3:=this.2.2 ho
          rw [psum_app,psum_fl] at h3
          have h4:psum [pieceR s (p+2)]≤pcn s (p+2):=by
            show (sl s (p+2) (pcn s (p+2))).length+0≤_
            unfold sl
            rw [List.length_take];omega
          simp only [List.length_nil] at h3
          omega
        | false=>simp only [cond_false];exact ⟨by omega,by omega,fun h=>by simp at h⟩
      | false =>
        have:=ih (s.length - (p+1)) (by omega) (p+1) out (b++[s.getD p 0]) rfl (by omega)
        simp only [cond_false]
        refine ⟨by omega,by omega,fun ho=>?_⟩
        have h3:=this.2.2 ho
        rw [List.length_append,List.length_singleton] at h3
        omega
    · rw [blt_f (by omega)];simp only [Bool.not_false,cond_true];exact ⟨by omega,by omega,fun h=>by simp at h⟩
theorem byt_out {s:Str} {p:Nat} (h:¬ p < s.length):byt s p=0:=by
  unfold byt
  rw [List.getD_eq_getElem?_getD,List.getElem?_eq_none (by omega)];rfl
theorem two_in {s:Str} {p:Nat} {a b:Int} (h:two s p a b=true) (hb:b≠0):p+1 < s.length:=by
  unfold two at h
  rw [Bool.and_eq_true,beq_iff_eq,beq_iff_eq] at h
  rcases Nat.lt_or_ge (p+1) s.length with h2 | h2
  · exact h2
  · rw [byt_out (show ¬ p+1 < s.length by omega)] at h
    exact absurd h.2.symm hb
theorem runM_pos {s:Str} {p:Nat} (hp:p < s.length) (h:allB (byt s p)=true):0 < runM s p:=by
  rcases ff_spec (s.length - p) (fun i=>allB (byt s (p+i))) with ⟨h1,_⟩ | ⟨_,h1,_⟩
  · unfold runM;omega
  · unfold runM
    rcases Nat.eq_zero_or_pos (ff (fun i=>allB (byt s (p+i))) (s.length - p)) with h0 | h0
    · rw [h0,Nat.add_zero,h] at h1;cases h1
    · exact h0
theorem twoS_cases (s:Str) (p:Nat):(twoS s p=[]∧two s p 61 61=false∧two s p 33 61=false∧two s p 60 61=false∧two s p 62 61=false∧two s p 38 38=false∧two s p 124 124=false∧two s p 61 62=false) ∨
    ∃a b:UInt8,twoS s p=[a,b]∧two s p (a.toNat:Int) (b.toNat:Int)=true∧b.toNat≠0:=by
  unfold twoS
  cases h1:two s p 61 61 with
  | true=>exact .inr ⟨61,61,rfl,h1,by decide⟩
  | false =>
  cases h2:two s p 33 61 with
  | true=>exact .inr ⟨33,61,rfl,h2,by decide⟩
  | false =>
  cases h3:two s p 60 61 with
  | true=>exact .inr ⟨60,61,rfl,h3,by decide⟩
  | false =>
  cases h4:two s p 62 61 with
  | true=>exact .inr ⟨62,61,rfl,h4,by decide⟩
  | false =>
  cases h5:two s p 38 38 with
  | true=>exact .inr ⟨38,38,rfl,h5,by decide⟩
  | false =>
  cases h6:two s p 124 124 with
  | true=>exact .inr ⟨124,124,rfl,h6,by decide⟩
  | false =>
  cases h7:two s p 61 62 with
  | true=>exact .inr ⟨61,62,rfl,h7,by decide⟩
  | false=>exact .inl ⟨rfl,rfl,rfl,rfl,rfl,rfl,rfl,rfl⟩
theorem tokO_in {s:Str} {p:Nat} (hp:p≤s.length) (he:((tokO s p).e==0)=true):(tokO s p).q≤s.length∧(tokO s p).t.p=posR s p ∧
    ((((tokO s p).t.kind==0)=true∧p=s.length)∨(((tokO s p).t.kind==0)=false∧p < (tokO s p).q)):=by
  unfold tokO at *
  cases hb:Nat.beq p s.length with
  | true=>exact ⟨hp,rfl,.inl ⟨rfl,Nat.eq_of_beq_eq_true hb⟩⟩
  | false =>
    have hlt:p < s.length:=by
      rcases Nat.lt_or_ge p s.length with h | h
      · exact h
      · obtain rfl:p=s.length:=by omega
        rw [Nat.beq_refl] at hb;cases hb
    rw [hb] at he
    have hr:=runM_le s p
    cases hl:letB (byt s p) with
    | true =>
      have:=runM_pos hlt (show allB (byt s p)=true by unfold allB;rw [hl];rfl)
      exact ⟨by show p+runM s p≤_;omega,rfl,.inr ⟨rfl,by show p < p+runM s p;omega⟩⟩
    | false =>
    cases hd:digB' (byt s p) with
    | true =>
      have:=runM_pos hlt (show allB (byt s p)=true by unfold allB;rw [hd];simp)
      exact ⟨by show p+runM s p≤_;omega,rfl,.inr ⟨rfl,by show p < p+runM s p;omega⟩⟩
    | false =>
    cases hq:byt s p==34 with
    | true =>
      simp only [cond_false,cond_true,hl,hd,hq,textO] at he ⊢
      have hin:=bodyM_in s _ (p+1) [] [] rfl (by omega)
      cases ho:(bodyM s (p+1) [] []).ok with
      | false=>rw [ho] at he;cases he
      | true =>
        simp only [cond_true]
        exact ⟨hin.2.1,by first | rfl | trivial,.inr ⟨by first | rfl | trivial,by omega⟩⟩
    | false =>
      simp only [cond_false,hl,hd,hq,signO] at he ⊢
      rcases twoS_cases s p with ⟨h0,_⟩ | ⟨a,b,h0,h1,h2⟩
      · rw [h0] at he ⊢
        cases h3:isOne (byt s p) with
        | true=>exact ⟨by show p+1≤_;omega,by first | rfl | trivial,.inr ⟨by first | rfl | trivial,by show p < p+1;omega⟩⟩
        | false=>rw [h3] at he;cases he
      · rw [h0]
        have:=two_in h1 (by omega)
        exact ⟨by show p+2≤_;omega,by first | rfl | trivial,.inr ⟨by first | rfl | trivial,by show p < p+2;omega⟩⟩
inductive LexTo (s:Str):Nat→List TokR→Int→PosR→Prop
  | bad (p:Nat) (h:((tokO s (blankM s p)).e==0)=false):LexTo s p [] (tokO s (blankM s p)).e (posR s (blankM s p))
  | stop (p:Nat) (h:((tokO s (blankM s p)).e==0)=true) (hk:((tokO s (blankM s p)).t.kind==0)=true):LexTo s p [(tokO s (blankM s p)).t] 0 ⟨0,0,0⟩
  | go (p:Nat) (l:List TokR) (h:((tokO s (blankM s p)).e==0)=true) (hk:((tokO s (blankM s p)).t.kind==0)=false) (hl:LexTo s (tokO s (blankM s p)).q l 0 ⟨0,0,0⟩):LexTo s p ((tokO s (blankM s p)).t::l) 0 ⟨0,0,0⟩
  | goBad (p:Nat) (e:Int) (bp:PosR) (h:((tokO s (blankM s p)).e==0)=true) (hk:((tokO s (blankM s p)).t.kind==0)=false) (he:(e==0)=false) (hl:LexTo s (tokO s (blankM s p)).q [] e bp):LexTo s p [] e bp
end Go.Proofs.YtlnkjdedeegajaaGreatDoor
