/-
  THE DOCUMENT's READER, by its parts: what is told of what is read deeper.
-/
import Derived.Test.YtlnkjdedeegajaaGreatDoorSignD
import Derived.Test.YtlnkjdedeegajaaGreatDoorLexM
namespace Go.Proofs.YtlnkjdedeegajaaGreatDoor
open Go.Eng
set_option maxRecDepth 100000
def pBl:List (D Pl)→Option (Bool×D Pl)
  | [.str s,.int .i64 (.ofNat p)]=>some (Nat.ble p s.length,dI (blankM s p))
  | _=>none
theorem pBl_ok:∀ds b d,pBl ds=some (b,d)→b=true→Snd 17 ds d:=by
  intro ds b d h hb
  unfold pBl at h
  split at h
  · simp only [Option.some.injEq,Prod.mk.injEq] at h
    obtain ⟨rfl,rfl⟩:=h
    exact blank_sound _ _ (Nat.le_of_ble_eq_true hb)
  · simp at h
def nuR (s:Str):D Pl:=.tup [dI (nuV s).1,dI (nuV s).2]
def tA (R:Eng.Told Pl):Eng.Told Pl:=tAt (tell 17 pBl (tell 18 (pU8 fun c=>.bool (letB c)) (tell 19 (pU8 fun c=>.bool (digB' c)) (tell 21 pPartsD (tell 22 pSgn (tell 20 (pS nuR) R))))))
theorem tA_ok {R:Eng.Told Pl} (h:TOk R):TOk (tA R):=tAt_ok (tell_ok pBl_ok (tell_ok (pU8_ok let_sound) (tell_ok (pU8_ok dig_sound) (tell_ok pPartsD_ok (tell_ok pSgn_ok (tell_ok (pS_ok fun s=>Nu.refParse_sound s) h))))))
def cz:List (D Pl):=[dI 0,dI 0,dI 0,dI 0,.str []]
def sAe (s:Str) (out:List TokR) (a c e:Int) (tc:List (D Pl)):St Pl:=mkS 146 [(0,.str s),(2,.nilS),(3,.ptr 3 0),(4,.arr 144),(5,dI a),(6,.ptr 6 0),(7,dI 0),(8,.int .u8 c),(9,dI e)] [(6,.box false tc),(144,.arr false (pToks out)),(3,.box false cz)]
def lg (s:Str) (e:Nat):Bool:=letB (byt s e)==false&&true
theorem bAe (s:Str) (out:List TokR) (a c:Int) (e:Nat) (tc:List (D Pl)):evC (tA tell0) noTL noL 1 (loopAt 9 1) [0,2,3,4,5,6,7,8,9] (sAe s out a c e tc) =
    ixo_ e s.length (decide ((e:Int) < (s.length:Int))==true) (bif (decide ((e:Int) < (s.length:Int))==true) then (ixo_ e s.length (lg s e) (bif lg s e then (bif digB' (byt s e) then some (.normal,sAe s out a c (w64 ((e:Int)+1)) tc) else some (.exit 2,sAe s out a c e tc)) else (some (.normal,sAe s out a c (w64 ((e:Int)+1)) tc)))) else ixo_ e s.length false (some (.exit 2,sAe s out a c e tc))):=by kernel_rfl
theorem idsA:(loopsAt 9).length=3∧firstId (loopAt 9 0)=5∧firstId (loopAt 9 1)=12∧firstId (loopAt 9 2)=33∧loopsOf (loopAt 9 1)=[]∧loopsOf (loopAt 9 2)=[]∧loopsOf (loopAt 9 0)=[loopAt 9 1,loopAt 9 2]:=⟨by kernel_rfl,by kernel_rfl,by kernel_rfl,by kernel_rfl,by kernel_rfl,by kernel_rfl,by kernel_rfl⟩
def LSAe (S:St Pl):Option (Bool×LR Pl):=match seenS 146 [0,2,3,4,5,6,7,8,9] S with
  | some ([.str s,.nilS,.ptr 3 0,.arr 144,.int .i64 a,.ptr 6 0,.int .i64 (.ofNat 0),.int .u8 c,.int .i64 (.ofNat e)],[(6,.box false tc),(144,.arr false ⟨.toks,out⟩),(3,.box false [.int .i64 (.ofNat 0),.int .i64 (.ofNat 0),.int .i64 (.ofNat 0),.int .i64 (.ofNat 0),.str []])]) =>
    some (Nat.ble s.length big&&Nat.ble e s.length,.leaf (.exit 2) (sAe s out a c ((e+runM s e:Nat):Int) tc))
  | _=>none
theorem LSAe_ok:SOk X0 (loopAt 9 1) LSAe:=by
  intro S c r h hc
  unfold LSAe at h
  split at h
  · rename_i s a c' e tc out hs
    simp only [Option.some.injEq,Prod.mk.injEq] at h
    obtain ⟨rfl,rfl⟩:=h
    rw [Bool.and_eq_true,Nat.ble_eq,Nat.ble_eq] at hc
    refine Goes.pre (keepOf [0,2,3,4,5,6,7,8,9]) ?_
    rw [seenS_mask hs]
    have hcl:=runM_le s e
    have go:=fun i e' S' (h:_=some (e',S'))=>goes_of (tA_ok (tell0_ok _)) (noTL_ok _ _) (noLoops idsA.2.2.2.2.1) ((bAe s out a c' (e+i) tc).trans h)
    refine loop_all (Sf:=fun i=>sAe s out a c' ((e+i:Nat):Int) tc) (n:=runM s e) (by simp) (fun i hi=>go _ _ _ ?_) (go _ _ _ ?_)
    · have h1:=ff_at hi
      have hlt:e+i < s.length:=by omega
      rw [ixo_t hlt,lt_dec hlt,show (true==true)=true from rfl,cond_true,ixo_t hlt,show w64 (((e+i:Nat):Int)+1)=((e+(i+1):Nat):Int) from wrap_nat (by omega)]
      unfold lg
      unfold allB at h1
      cases h2:letB (byt s (e+i)) with
      | true=>rfl
      | false=>rw [h2,Bool.false_or] at h1;rw [h1];rfl
    · by_cases hlt:e+runM s e < s.length
      · have h1:allB (byt s (e+runM s e))=false:=(ff_end (fun i=>allB (byt s (e+i))) (s.length - e)).2 (show runM s e < _ by omega)
        unfold allB at h1
        rw [Bool.or_eq_false_iff] at h1
        rw [ixo_t hlt,lt_dec hlt,show (true==true)=true from rfl,cond_true,ixo_t hlt]
        unfold lg
        rw [h1.1,h1.2];rfl
      · rw [ge_dec hlt,ixo_any (fun h=>by simp at h),show (false==true)=false from rfl,cond_false,ixo_any (fun h=>by simp at h)]
  · simp at h
def sAz (s:Str) (out:List TokR) (a c e n:Int) (tc:List (D Pl)) (l:List PartR) (ok:Bool) (z i:Int):St Pl :=
  mkS 146 [(0,.str s),(2,.nilS),(3,.ptr 3 0),(4,.arr 144),(5,dI a),(6,.ptr 6 0),(7,dI 0),(8,.int .u8 c),(9,dI e),(12,.pl (pParts l) .any),(13,dI n),(14,.bool ok),(15,dI z),(16,dI i)] [(6,.box false tc),(144,.arr false (pToks out)),(3,.box false cz)]
theorem bAz (s:Str) (out:List TokR) (a c e n:Int) (tc:List (D Pl)) (l:List PartR) (ok:Bool) (z:Int) (i:Nat):evC (tA tell0) noTL noL 1 (loopAt 9 2) [0,2,3,4,5,6,7,8,9,12,13,14,15,16] (sAz s out a c e n tc l ok z i) =
    lt_ i l.length (ix_ i l.length (some (.normal,sAz s out a c e n tc l ok (w64 (z+((l.getD i default).s.length:Int))) (w64 ((i:Int)+1))))) (some (.exit 5,sAz s out a c e n tc l ok z i)):=by kernel_rfl
theorem psum_take {l:List PartR} {i:Nat} (h:i < l.length):psum (l.take (i+1))=psum (l.take i)+(l.getD i default).s.length:=by
  rw [List.take_add_one,List.getElem?_eq_getElem h,Option.toList_some,psum_app,List.getD_eq_getElem?_getD,List.getElem?_eq_getElem h]
  show _+((l[i]).s.length+0)=_+(l[i]).s.length
  omega
theorem psum_le (l:List PartR) (i:Nat):psum (l.take i)≤psum l:=by
  have:psum (l.take i++l.drop i)=psum l:=by rw [List.take_append_drop]
  rw [psum_app] at this
  omega
def LSAz (S:St Pl):Option (Bool×LR Pl):=match seenS 146 [0,2,3,4,5,6,7,8,9,12,13,14,15,16] S with
  | some ([.str s,.nilS,.ptr 3 0,.arr 144,.int .i64 a,.ptr 6 0,.int .i64 (.ofNat 0),.int .u8 c,.int .i64 e,.pl ⟨.parts,l⟩ .any,.int .i64 n,.bool ok,.int .i64 (.ofNat 0),.int .i64 (.ofNat 0)],[(6,.box false tc),(144,.arr false ⟨.toks,out⟩),(3,.box false [.int .i64 (.ofNat 0),.int .i64 (.ofNat 0),.int .i64 (.ofNat 0),.int .i64 (.ofNat 0),.str []])]) =>
    some (Nat.ble (psum l) big&&Nat.ble l.length big,.leaf (.exit 5) (sAz s out a c e n tc l ok (psum l:Int) (l.length:Int)))
  | _=>none
theorem LSAz_ok:SOk X0 (loopAt 9 2) LSAz:=by
  intro S c r h hc
  unfold LSAz at h
  split at h
  · rename_i s a c' e l n ok tc out hs
    simp only [Option.some.injEq,Prod.mk.injEq] at h
    obtain ⟨rfl,rfl⟩:=h
    rw [Bool.and_eq_true,Nat.ble_eq,Nat.ble_eq] at hc
    refine Goes.pre (keepOf [0,2,3,4,5,6,7,8,9,12,13,14,15,16]) ?_
    rw [seenS_mask hs]
    have go:=fun (z:Int) i e' S' (h:_=some (e',S'))=>goes_of (tA_ok (tell0_ok _)) (noTL_ok _ _) (noLoops idsA.2.2.2.2.2.1) ((bAz s out a c' e n tc l ok z i).trans h)
    refine loop_all (Sf:=fun i=>sAz s out a c' e n tc l ok (psum (l.take i):Int) (i:Int)) (n:=l.length) (by simp) (fun i hi=>go _ _ _ _ ?_) ?_
    · have h1:=psum_le l (i+1)
      have h2:=psum_take hi
      rw [lt_t hi,ix_t hi,show w64 ((i:Int)+1)=((i+1:Nat):Int) from wrap_nat (by omega),h2]
      have hbig:big=140737488355328:=rfl
      rw [show w64 ((psum (l.take i):Int)+((l.getD i default).s.length:Int))=((psum (l.take i)+(l.getD i default).s.length:Nat):Int) from (wrap_in _ (by omega)).trans (by omega)]
    · have:=go (psum (l.take l.length):Int) l.length _ _ (lt_f (by omega) _ _)
      rw [List.take_length] at this
      show Goes X0 _ (sAz s out a c' e n tc l ok (psum (l.take l.length):Int) (l.length:Int)) _ _
      rw [List.take_length]
      exact this
  · simp at h
def posC (s:Str) (b:Nat):PosR:=⟨cm s b,ln s (cm s b),(cm s b:Int) - sn s (cm s b)+1⟩
def sAl (s:Str) (out:List TokR) (a:Int):St Pl:=mkS 146 [(0,.str s),(2,.nilS),(3,.ptr 3 0),(4,.arr 144),(5,dI a)] [(144,.arr false (pToks out)),(3,.box false cz)]
def sAk (s:Str) (o:List TokR) (b:Nat):St Pl:=mkS 146 [(0,.str s),(2,.arr 37),(3,.ptr 3 0),(5,dI b)] [(37,.arr false (pToks o)),(3,.box false cz)]
def sAb (s:Str) (out:List TokR) (b:Nat) (e:Int):St Pl:=mkS 146 [(0,.str s),(2,.nilS),(3,.ptr 3 0),(4,.arr 144),(5,dI b)] [(144,.arr false (pToks out)),(3,.box false [dI e,dI (posC s b).at',dI (posC s b).line,dI (posC s b).col,.str []])]
def tokK (s:Str) (out:List TokR) (b:Nat) (e:Int) (t:TokR) (a:Int):Option (Ex×St Pl):=bif e != 0 then some (.ret,sAb s out b e) else apK 80 out t fun o=>some (.normal,sAl s o a)
def letK (s:Str) (out:List TokR) (b en:Nat):Option (Ex×St Pl):=slK s b en fun x=>bif decide (w64 ((en:Int) - (b:Int)) > 24) then some (.ret,sAb s out b 3) else apK 80 out ⟨1,x,0,[],posC s b⟩ fun o=>some (.normal,sAl s o en)
def digK (s:Str) (out:List TokR) (b en:Nat):Option (Ex×St Pl):=slK s b en fun x=>tokK s out b (nuV x).2 ⟨2,[],(nuV x).1,[],posC s b⟩ en
def bdW (s:Str) (b:Nat):BodyO:=bodyM s (w64 ((b:Int)+1)).toNat [] []
def txtK (s:Str) (out:List TokR) (b:Nat):Option (Ex×St Pl) :=
  ck_ (decide (0≤w64 ((b:Int)+1))&&(Nat.ble (w64 ((b:Int)+1)).toNat s.length&&Nat.ble s.length 100000)) (ck_ (Nat.ble (psum (lOf (bdW s b))) big&&Nat.ble (lOf (bdW s b)).length big)
    (bif !((bdW s b).ok) then some (.ret,sAb s out b 4) else bif decide ((psum (lOf (bdW s b)):Int) > 1024) then some (.ret,sAb s out b 3) else apK 80 out ⟨3,[],0,lOf (bdW s b),posC s b⟩ fun o=>some (.normal,sAl s o (qOf (bdW s b)))))
def sgnK (s:Str) (out:List TokR) (b:Nat):Option (Ex×St Pl) :=
  ck_ (Nat.blt b s.length) (bif signS s b==[] then some (.ret,sAb s out b 23) else apK 80 out ⟨4,signS s b,0,[],posC s b⟩ fun o=>some (.normal,sAl s o (w64 ((b:Int)+((signS s b).length:Int)))))
def bodyA (s:Str) (out:List TokR) (b:Nat):Option (Ex×St Pl) :=
  bif decide ((b:Int) ≥ (s.length:Int)) then apK 80 out ⟨0,[],0,[],posC s b⟩ fun o=>some (.ret,sAk s o b) else
  ix_ b s.length (ck_ (Nat.ble s.length big&&Nat.ble b s.length) (bif letB (byt s b) then letK s out b (b+runM s b) else bif digB' (byt s b) then digK s out b (b+runM s b) else bif byt s b==34 then txtK s out b else sgnK s out b))
def FA:Fix Pl:={ keep:=[0,2,3,4,5],lose:=[6] }
theorem bA0 (s:Str) (out:List TokR) (p:Nat):evZ (tA tell0) noTL (atL 12 LSAe (atL 33 LSAz noL)) 1 (loopAt 9 0) FA (sAl s out p)=ck_ (Nat.ble p s.length) (bodyA s out (blankM s p)):=by kernel_rfl
theorem fl_len (out:List PartR) (b:Str):(fl out b).length≤out.length+1:=by cases b<;>simp [fl]
theorem bodyM_len (s:Str):∀(n p:Nat) (out:List PartR) (b:Str),s.length - p=n→p≤s.length→(bodyM s p out b).l.length≤out.length+1+(s.length - p):=by
  intro n
  induction n using Nat.strongRecOn with
  | _ n ih =>
    intro p out b hn hp
    rw [bodyM_eq]
    rcases Nat.lt_or_ge p s.length with h | h
    · rw [blt_t h]
      simp only [Bool.not_true,cond_false]
      cases byt s p==34 with
      | true=>have:=fl_len out b;simp only [cond_true];omega
      | false =>
      cases byt s p==10 with
      | true=>simp
      | false =>
      cases byt s p==92 with
      | true =>
        simp only [cond_true,cond_false]
        rcases Nat.lt_or_ge (p+1) s.length with h2 | h2
        · rw [blt_t h2]
          simp only [Bool.not_true,cond_false]
          cases escB (byt s (p+1)) with
          | true=>have:=ih (s.length - (p+2)) (by omega) (p+2) out (b++[(escV (byt s (p+1))).toNat.toUInt8]) rfl (by omega);simp only [cond_true];omega
          | false=>simp
        · rw [blt_f (by omega)];simp
      | false =>
      cases h36:two s p 36 123 with
      | true =>
        simp only [cond_true,cond_false]
        have h1:=two_in h36 (by omega)
        cases hpc:pcOk s (p+2) with
        | true =>
          have hlt:=pcOk_lt hpc
          have:=ih (s.length - (p+2+pcn s (p+2)+1)) (by omega) (p+2+pcn s (p+2)+1) (fl out b++[pieceR s (p+2)]) [] rfl (by omega)
          have h3:=fl_len out b
          rw [List.length_append,List.length_singleton] at this
          simp only [cond_true];omega
        | false=>simp
      | false =>
        have:=ih (s.length - (p+1)) (by omega) (p+1) out (b++[s.getD p 0]) rfl (by omega)
        simp only [cond_false];omega
    · rw [blt_f (by omega)];simp
theorem posC_eq {s:Str} {b:Nat} (h:b≤s.length):posC s b=posR s b:=by unfold posC posR;rw [cm_at h]
theorem bodyA_eq {s:Str} {out:List TokR} {b:Nat} (hb:b≤s.length) (hl:s.length≤100000) (ho:out.length≤100000) :
    bodyA s out b=bif !((tokO s b).e==0) then some (.ret,sAb s out b (tokO s b).e) else bif (tokO s b).t.kind==0 then some (.ret,sAk s (out++[(tokO s b).t]) b) else some (.normal,sAl s (out++[(tokO s b).t]) ((tokO s b).q:Int)):=by
  have hbig:big=140737488355328:=rfl
  have hap:(out.length+1) * 80≤big:=by omega
  unfold bodyA tokO
  rw [posC_eq hb]
  by_cases hlt:b < s.length
  · have hbe:Nat.beq b s.length=false:=by
      cases h:Nat.beq b s.length with
      | false=>rfl
      | true=>have:=Nat.eq_of_beq_eq_true h;omega
    rw [decide_eq_false (by omega),cond_false,ix_t hlt,ck_t (by rw [ble_t (by omega),ble_t hb];rfl),hbe,cond_false]
    have hr:=runM_le s b
    cases hle:letB (byt s b) with
    | true =>
      simp only [cond_true]
      unfold letK nameO
      rw [slK_t (by omega) (by omega),show w64 (((b+runM s b:Nat):Int) - (b:Int))=(runM s b:Int) from (wrap_in _ (by omega)).trans (by omega),show b+runM s b - b=runM s b by omega,posC_eq hb]
      simp only
      cases hd:decide ((runM s b:Int) > 24) with
      | true=>rfl
      | false=>rw [cond_false,apK_t hap];rfl
    | false =>
    cases hdi:digB' (byt s b) with
    | true =>
      simp only [cond_true,cond_false]
      unfold digK numO tokK
      rw [slK_t (by omega) (by omega),show b+runM s b - b=runM s b by omega,posC_eq hb]
      simp only
      cases hz:(nuV (sl s b (runM s b))).2==0 with
      | true =>
        rw [show ((nuV (sl s b (runM s b))).2 != 0)=false by rw [bne,hz];rfl,cond_false,apK_t hap];rfl
      | false =>
        rw [show ((nuV (sl s b (runM s b))).2 != 0)=true by rw [bne,hz];rfl];rfl
    | false =>
    cases hq:byt s b==34 with
    | true =>
      simp only [cond_true,cond_false]
      have w1:w64 ((b:Int)+1)=((b+1:Nat):Int):=wrap_nat (by omega)
      have hbd:bdW s b=bodyM s (b+1) [] []:=by unfold bdW;rw [w1];rfl
      have hin:=bodyM_in s _ (b+1) [] [] rfl (by omega)
      have hln:=bodyM_len s _ (b+1) [] [] rfl (by omega)
      simp only [List.length_nil] at hin hln
      unfold txtK textO
      rw [hbd,w1]
      have hps:psum (lOf (bodyM s (b+1) [] []))≤s.length∧(lOf (bodyM s (b+1) [] [])).length≤s.length+1:=by
        unfold lOf
        cases hok:(bodyM s (b+1) [] []).ok with
        | true=>have:=hin.2.2 hok;simp only [cond_true];simp only [psum] at this;omega
        | false=>simp [psum]
      rw [ck_t (by rw [decide_eq_true (show (0:Int)≤((b+1:Nat):Int) by omega),show (((b+1:Nat):Int)).toNat=b+1 from rfl,ble_t (show b+1≤s.length by omega),ble_t (show s.length≤100000 by omega)];rfl),
        ck_t (by rw [ble_t (by omega),ble_t (by omega)];rfl),posC_eq hb]
      cases hok:(bodyM s (b+1) [] []).ok with
      | true =>
        simp only [Bool.not_true,cond_false,cond_true]
        have e1:lOf (bodyM s (b+1) [] [])=(bodyM s (b+1) [] []).l:=by unfold lOf;rw [hok];rfl
        have e2:qOf (bodyM s (b+1) [] [])=(bodyM s (b+1) [] []).q:=by unfold qOf;rw [hok];rfl
        rw [e1,e2]
        cases hd:decide ((psum (bodyM s (b+1) [] []).l:Int) > 1024) with
        | true=>rfl
        | false=>rw [cond_false,apK_t hap];rfl
      | false=>rfl
    | false =>
      simp only [cond_false]
      unfold sgnK
      rw [ck_t (blt_t hlt),posC_eq hb]
      unfold signS signO
      rcases twoS_cases s b with ⟨h0,_⟩ | ⟨x,y,h0,h2,_⟩
      · rw [h0]
        simp only
        cases h1:isOne (byt s b) with
        | true =>
          simp only [cond_true]
          rw [sl1_eq hlt,show ([s.getD b 0]==([]:Str))=false from rfl,cond_false,apK_t hap,show w64 ((b:Int)+(([s.getD b 0]:Str).length:Int))=((b+1:Nat):Int) from wrap_nat (by omega)]
          rfl
        | false=>rfl
      · rw [h0]
        simp only
        rw [show (([x,y]:Str)==[])=false from rfl,cond_false,apK_t hap,show w64 ((b:Int)+(([x,y]:Str).length:Int))=((b+2:Nat):Int) from (wrap_in ((b:Int)+2) (by omega)).trans (by omega)]
        rfl
  · obtain rfl:b=s.length:=by omega
    rw [decide_eq_true (by omega),cond_true,apK_t hap,Nat.beq_refl]
    rfl
end Go.Proofs.YtlnkjdedeegajaaGreatDoor
namespace Go.Proofs.YtlnkjdedeegajaaGreatDoor
open Go.Eng
set_option maxRecDepth 100000
def rAk (l:List TokR):St Pl:=mkS 146 [(2,.arr 37),(3,.ptr 3 0)] [(37,.arr false (pToks l)),(3,.box false cz)]
def rAb (e:Int) (p:PosR):St Pl:=mkS 146 [(2,.nilS),(3,.ptr 3 0)] [(3,.box false [dI e,dI p.at',dI p.line,dI p.col,.str []])]
abbrev RndA:=Rnd (loopAt 9 0)
theorem rndA (s:Str) (hl:s.length≤32768):∀(k p:Nat) (acc:List TokR),p≤s.length→s.length - p < k→acc.length≤p →
    RndA (sAl s acc p) .ret (bif (allK k s p acc).bad==0 then rAk (allK k s p acc).l else rAb (allK k s p acc).bad (allK k s p acc).bp)
  | 0,p,acc,_,h,_=>by omega
  | k+1,p,acc,hp,hk,ha=>by
    have hL:∀b∈loopsOf (loopAt 9 0),LoopOk X0 (atL 12 LSAe (atL 33 LSAz noL)) b:=by
      rw [idsA.2.2.2.2.2.2]
      intro b hb
      simp only [List.mem_cons,List.not_mem_nil,or_false] at hb
      rcases hb with rfl | rfl
      · exact atL_ok (fun _=>LSAe_ok) fun h=>absurd idsA.2.2.1 h
      · exact atL_ok (fun h=>absurd (idsA.2.2.2.1.symm.trans h) (by decide)) fun _=>atL_ok (fun _=>LSAz_ok) fun h=>absurd idsA.2.2.2.1 h
    have hb:=blankM_in s _ p rfl hp
    have step:=fun e S' (h:_=some (e,S'))=>goes_ofZ (tA_ok (tell0_ok _)) (noTL_ok _ _) hL ((bA0 s acc p).trans h)
    rw [ck_t (ble_t hp),bodyA_eq hb.2 (by omega) (by omega)] at step
    simp only [allK]
    cases he:(tokO s (blankM s p)).e==0 with
    | false =>
      rw [he] at step
      simp only [Bool.not_false,cond_true]
      rw [he,cond_false]
      refine .stop (by simp) ?_
      have h1:=(step _ _ rfl).norm xok (keepOf [2,3]) (keepOf [144])
      have e:normS (keepOf [2,3]) (keepOf [144]) (sAb s acc (blankM s p) (tokO s (blankM s p)).e)=rAb (tokO s (blankM s p)).e (posR s (blankM s p)):=by
        rw [←posC_eq hb.2];rfl
      rw [e] at h1
      exact h1
    | true =>
      obtain ⟨h1,_,h2⟩:=tokO_in hb.2 he
      rw [he] at step
      simp only [Bool.not_true,cond_false]
      rcases h2 with ⟨h2,h3⟩ | ⟨h2,h3⟩
      · rw [h2] at step ⊢
        exact .stop (by simp) ((step _ _ rfl).norm xok (keepOf [2,3]) (keepOf []))
      · rw [h2] at step ⊢
        exact .step (step _ _ rfl) (rndA s hl k _ _ h1 (by omega) (by rw [List.length_append,List.length_singleton];omega))
def sA0 (s:Str):St Pl:=mkS 146 [(0,.str s),(2,.nilS),(3,.ptr 3 0),(4,.nilS),(5,dI 0)] [(3,.box false cz)]
theorem weakA_eq (s:Str):nilsS X0.C [(.slot 4,144,pToks [])] (sA0 s)=sAl s [] 0:=by kernel_rfl
theorem weakA (s:Str):Weak X0 (sA0 s) (sAl s [] 0):=weakA_eq s ▸ Weak.nils xok [(.slot 4,144,pToks [])] (sA0 s)
def aK (s:Str):AllO:=allK (s.length+1) s 0 []
def LSA (S:St Pl):Option (Bool×LR Pl):=match seenS 146 [0,2,3,4,5] S with
  | some ([.str s,.nilS,.ptr 3 0,.nilS,.int .i64 (.ofNat 0)],[(3,.box false [.int .i64 (.ofNat 0),.int .i64 (.ofNat 0),.int .i64 (.ofNat 0),.int .i64 (.ofNat 0),.str []])]) =>
    some (Nat.ble s.length 32768,.ite ((aK s).bad==0) (.leaf .ret (rAk (aK s).l)) (.leaf .ret (rAb (aK s).bad (aK s).bp)))
  | _=>none
theorem LSA_ok:SOk X0 (loopAt 9 0) LSA:=by
  intro S c r h hc
  unfold LSA at h
  split at h
  · rename_i s hs
    simp only [Option.some.injEq,Prod.mk.injEq] at h
    obtain ⟨rfl,rfl⟩:=h
    rw [Nat.ble_eq] at hc
    refine Goes.pre (keepOf [0,2,3,4,5]) ?_
    rw [seenS_mask hs]
    refine Goes.weakPre (weakA s) ?_
    have:=(rndA s hc (s.length+1) 0 [] (by omega) (by omega) (by simp)).goes
    unfold aK
    revert this
    cases (allK (s.length+1) s 0 []).bad==0<;>exact id
  · simp at h
theorem eA (s:Str):evF (tA tell0) noTL (atL 5 LSA (atL 12 LSAe (atL 33 LSAz noL))) 1 Tryz.f9 [.str s] =
    bif decide ((s.length:Int) > 32768) then some (.tup [.nilS,.agg [dI 3,dI (posC s 0).at',dI (posC s 0).line,dI (posC s 0).col,.str []]])
    else ck_ (Nat.ble s.length 32768) (bif (aK s).bad==0 then some (.tup [.pl (pToks (aK s).l) .any,.agg cz]) else some (.tup [.nilS,.agg [dI (aK s).bad,dI (aK s).bp.at',dI (aK s).bp.line,dI (aK s).bp.col,.str []]])):=by kernel_rfl
def cDg (c:Int) (p:PosR):List (D Pl):=[dI c,dI p.at',dI p.line,dI p.col,.str []]
theorem allK_bad:∀(k:Nat) (s:Str) (p:Nat) (acc:List TokR),(((allK k s p acc).bad==0)=true→(allK k s p acc).bp=⟨0,0,0⟩)∧(((allK k s p acc).bad==0)=false→(allK k s p acc).l=[])
  | 0,s,p,acc=>⟨fun _=>rfl,fun _=>rfl⟩
  | k+1,s,p,acc=>by
    simp only [allK]
    cases he:(tokO s (blankM s p)).e==0 with
    | false =>
      refine ⟨fun h=>?_,fun _=>rfl⟩
      simp only [Bool.not_false,cond_true] at h
      rw [he] at h
      exact absurd h (by simp)
    | true =>
      simp only [Bool.not_true,cond_false]
      cases (tokO s (blankM s p)).t.kind==0 with
      | true=>exact ⟨fun _=>rfl,fun h=>by simp at h⟩
      | false=>exact allK_bad k s _ _
theorem lexD_sound (s:Str):Snd 9 [.str s] (.tup [.pl (pToks (allM s).l) .any,.agg (cDg (allM s).bad (allM s).bp)]):=by
  have hLs:∀i,i < (loopsAt 9).length→LoopOk X0 (atL 5 LSA (atL 12 LSAe (atL 33 LSAz noL))) (loopAt 9 i):=by
    intro i hi
    rw [idsA.1] at hi
    match i,hi with
    | 0,_=>exact atL_ok (fun _=>LSA_ok) fun h=>absurd idsA.2.1 h
    | 1,_=>exact atL_ok (fun h=>absurd (idsA.2.2.1.symm.trans h) (by decide)) fun _=>atL_ok (fun _=>LSAe_ok) fun h=>absurd idsA.2.2.1 h
    | 2,_=>exact atL_ok (fun h=>absurd (idsA.2.2.2.1.symm.trans h) (by decide)) fun _=>atL_ok (fun h=>absurd (idsA.2.2.2.1.symm.trans h) (by decide)) fun _=>atL_ok (fun _=>LSAz_ok) fun h=>absurd idsA.2.2.2.1 h
  have key:=fun d (h:_=some d)=>snd_fn (n:=1) (tA_ok (tell0_ok _)) (noTL_ok _ _) (f:=9) (fn:=Tryz.f9) (by kernel_rfl) (loops_of (fn:=Tryz.f9) (by kernel_rfl) hLs) ((eA s).trans h)
  unfold allM
  by_cases hl:32768 < s.length
  · rw [decide_eq_true (by omega),cond_true] at key
    rw [blt_t hl,cond_true,←posC_eq (show 0≤s.length by omega)]
    exact (key _ rfl).post (RDle.tup (.cons (RDle.of (.nil _ rfl)) (RDles.refl _)))
  · rw [decide_eq_false (by omega),cond_false,ck_t (ble_t (by omega))] at key
    rw [blt_f hl,cond_false]
    have hz:=allK_bad (s.length+1) s 0 []
    show Snd _ _ (.tup [.pl (pToks (aK s).l) .any,.agg (cDg (aK s).bad (aK s).bp)])
    cases hb:(aK s).bad==0 with
    | true =>
      rw [hb,cond_true] at key
      rw [show (aK s).bp=⟨0,0,0⟩ from hz.1 hb,show (aK s).bad=0 from beq_iff_eq.1 hb]
      exact key _ rfl
    | false =>
      rw [hb,cond_false] at key
      rw [show (aK s).l=[] from hz.2 hb]
      exact (key _ rfl).post (RDle.tup (.cons (RDle.of (.nil _ rfl)) (RDles.refl _)))
def pLex:List (D Pl)→Option (Bool×D Pl)
  | [.str s]=>some (true,.tup [.pl (pToks (allM s).l) .any,.agg (cDg (allM s).bad (allM s).bp)])
  | _=>none
theorem pLex_ok:∀ds b d,pLex ds=some (b,d)→b=true→Snd 9 ds d:=by
  intro ds b d h hb
  unfold pLex at h
  split at h
  · simp only [Option.some.injEq,Prod.mk.injEq] at h;obtain ⟨_,rfl⟩:=h;exact lexD_sound _
  · simp at h
end Go.Proofs.YtlnkjdedeegajaaGreatDoor
namespace Go.Proofs.YtlnkjdedeegajaaGreatDoor
open Go.Eng
structure BadR where
  is:Bool
  c:Int
  p:PosR
  deriving Inhabited
structure PR where
  e:ExprR
  a:Int
  b:BadR
  deriving Inhabited
def p00:PosR:=⟨0,0,0⟩
def bad0:BadR:=⟨false,0,p00⟩
def wrongB (t:TokR):BadR:=⟨true,4,t.p⟩
def v00:Val:=⟨0,0,[],[],[],0,0,false⟩
def e00:ExprR:=⟨0,[],[],v00,[],p00⟩
def litE (k i:Int) (s:Str) (p:PosR):ExprR:=⟨1,[],[],⟨k,i,s,[],[],0,0,false⟩,[],p⟩
def nodeE (op:Int) (s s2:Str) (l:List ExprR) (p:PosR):ExprR:=⟨op,s,s2,v00,l,p⟩
def tok00:TokR:=⟨0,[],0,[],p00⟩
def outA (l:List TokR) (a:Int):Bool:=bif decide (a < 0) then true else decide (a ≥ (l.length:Int))
def tokA (l:List TokR) (a:Int):TokR:=bif outA l a then tok00 else l.getD a.toNat default
def sgA (l:List TokR) (a:Int) (s:Str):Bool:=bif (tokA l a).kind==4 then (tokA l a).s==s else false
def wdA (l:List TokR) (a:Int) (s:Str):Bool:=bif (tokA l a).kind==1 then (tokA l a).s==s else false
def resV (s:Str):Bool:=bif s==[116,114,117,101] then true else bif s==[102,97,108,115,101] then true else bif s==[110,117,108,108] then true else bif s==[102,111,114] then true else bif s==[105,110] then true else s==[105,102]
def opS (lv:Nat) (s:Str):Int:=match lv with
  | 1=>bif s==[124,124] then 20 else 0
  | 2=>bif s==[38,38] then 19 else 0
  | 3=>bif s==[60] then 13 else bif s==[60,61] then 14 else bif s==[62] then 15 else bif s==[62,61] then 16 else bif s==[61,61] then 17 else bif s==[33,61] then 18 else 0
  | 4=>bif s==[43] then 11 else bif s==[45] then 12 else 0
  | 5=>bif s==[42] then 8 else bif s==[47] then 9 else bif s==[37] then 10 else 0
  | _=>0
def opA (lv:Nat) (t:TokR):Int:=bif t.kind==4 then opS lv t.s else 0
abbrev Deep (β:Type):=Nat→Int→(PR→Option β)→Option β
structure Out (β:Type) where
  e:PR→Option β
  v:Int→Int→Str→PosR→Int→BadR→Option β
  n:Int→Str→Str→List ExprR→PosR→Int→BadR→Option β
  z:Int→Str→Str→PosR→Int→BadR→Option β
  y:Int→Str→Str→List ExprR→PosR→Int→BadR→Option β
  g:Int→Str→Str→List ExprR→PosR→Int→BadR→Option β
structure PL where
  l:List ExprR
  a:Int
  b:BadR
  deriving Inhabited
section
variable {β:Type}
def orF (x y:Bool) (A B:Option β):Option β:=bif (x==false) then (bif y then A else B) else A
def condX (l:List TokR) (a:Int) (P:Deep β) (O:Out β):Option β :=
  P 1 a fun r=>orF r.b.is (!(sgA l r.a [63])) (O.e r) (
    P 0 (w64 (r.a+1)) fun x=>bif x.b.is then O.e ⟨r.e,x.a,x.b⟩ else bif !(sgA l x.a [58]) then O.e ⟨r.e,x.a,wrongB (tokA l x.a)⟩ else
      P 0 (w64 (x.a+1)) fun y=>O.n 21 [] [] [r.e,x.e,y.e] (tokA l r.a).p y.a y.b)
def unX (l:List TokR) (a:Int) (P:Deep β) (O:Out β):Option β :=
  let N:=fun op:Int=>P 6 (w64 (a+1)) fun x=>O.n op [] [] [x.e] (tokA l a).p x.a x.b
  bif sgA l a [33] then (bif sgA l a [45] then N 7 else N 6) else (bif sgA l a [45] then N 7 else P 7 a O.e)
def lvB (h:ExprR→ExprR) (ht:TokR→TokR) (l:List TokR) (lv:Nat) (r:PR) (P:Deep β) (N X:PR→Option β):Option β :=
  bif (!r.b.is)==true then (bif decide (opA lv (tokA l r.a) > 0) then P (lv+1) (w64 (r.a+1)) fun x =>
      (bif Nat.beq lv 3 then X ⟨nodeE (opA lv (ht (tokA l r.a))) [] [] [h r.e,h x.e] (tokA l r.a).p,x.a,x.b⟩ else N ⟨nodeE (opA lv (ht (tokA l r.a))) [] [] [h r.e,h x.e] (tokA l r.a).p,x.a,x.b⟩) else X r) else X r
def lvX (lv:Nat) (a:Int) (P:Deep β) (L:PR→(PR→Option β)→Option β) (O:Out β):Option β:=P (lv+1) a fun r=>L r O.e
def postB (h:ExprR→ExprR) (l:List TokR) (r:PR) (P:Deep β) (N R X:PR→Option β):Option β :=
  bif !r.b.is then (bif sgA l r.a [46] then (bif (tokA l (w64 (r.a+1))).kind != 1 then R ⟨r.e,r.a,wrongB (tokA l (w64 (r.a+1)))⟩ else N ⟨nodeE 3 (tokA l (w64 (r.a+1))).s [] [h r.e] (tokA l r.a).p,w64 (r.a+2),r.b⟩)
    else bif !(sgA l r.a [91]) then R r else P 0 (w64 (r.a+1)) fun x=>bif x.b.is then R ⟨r.e,x.a,x.b⟩ else bif !(sgA l x.a [93]) then R ⟨r.e,x.a,wrongB (tokA l x.a)⟩ else N ⟨nodeE 4 [] [] [h r.e,h x.e] (tokA l r.a).p,w64 (x.a+1),r.b⟩)
  else X r
def keyX (l:List TokR) (a:Int) (T:TokR→(ExprR→BadR→Option β)→Option β) (K:ExprR→Option β) (R:PL→Option β):Option β :=
  let t:=tokA l a
  bif (bif t.kind != 1 then t.kind != 3 else false) then R ⟨[],a,wrongB t⟩
  else bif t.kind==3 then T t fun x b=>bif b.is then R ⟨[],a,b⟩ else K x else K (litE 3 0 t.s t.p)
def signX (l:List TokR) (a:Int) (K:Option β) (R:PL→Option β):Option β :=
  bif ((!(sgA l a [61]))==true) then (bif !(sgA l a [58]) then R ⟨[],a,wrongB (tokA l a)⟩ else K) else K
def exB (l:List TokR) (end':Str) (out:List ExprR) (a:Int) (P:Deep β) (T:TokR→(ExprR→BadR→Option β)→Option β) (N X:List ExprR→Int→Option β) (R:PL→Option β) (A:List ExprR→ExprR→(List ExprR→Option β)→Option β):Option β :=
  let V:=fun (out:List ExprR) (a:Int)=>P 0 a fun r=>bif r.b.is then R ⟨[],r.a,r.b⟩ else A out r.e fun o=>bif !(sgA l r.a [44]) then X o r.a else N o (w64 (r.a+1))
  bif !(sgA l a end') then (bif end'==[125] then keyX l a T (fun k=>signX l (w64 (a+1)) (A out k fun o=>V o (w64 (w64 (a+1)+1))) R) R else V out a) else X out a
def forY (op:Int) (l:List TokR) (a:Int) (end':Str) (p:PosR) (P:Deep β) (O:Out β):Option β :=
  let t:=tokA l (w64 (a+1))
  let Fin:=fun (s s2:Str) (L:List ExprR) (a:Int)=>bif !(sgA l a end') then O.g op s s2 L p a (wrongB (tokA l a)) else O.g op s s2 L p (w64 (a+1)) bad0
  let If:=fun (s s2:Str) (L:List ExprR) (a:Int)=>bif wdA l a [105,102] then P 0 (w64 (a+1)) fun c=>bif c.b.is then O.g op s s2 L p c.a c.b else Fin s s2 (L++[c.e]) c.a else Fin s s2 L a
  let One:=fun (s s2:Str) (L:List ExprR) (a:Int) (K:List ExprR→Int→Option β)=>P 0 a fun x=>bif x.b.is then (match L with
    | []=>O.z op s s2 p x.a x.b
    | y::r=>O.g op s s2 (y::r) p x.a x.b) else K (L++[x.e]) x.a
  let Sg:=fun (s s2:Str) (w:Str) (L:List ExprR) (a:Int) (K:List ExprR→Int→Option β)=>bif !(sgA l a w) then O.g op s s2 L p a (wrongB (tokA l a)) else K L (w64 (a+1))
  let In:=fun (s s2:Str) (a:Int)=>bif !(wdA l a [105,110]) then O.z op s s2 p a (wrongB (tokA l a)) else
    bif end'==[125] then One s s2 [] (w64 (a+1)) fun L a=>Sg s s2 [58] L a fun L a=>One s s2 L a fun L a=>Sg s s2 [61,62] L a fun L a=>One s s2 L a fun L a=>If s s2 L a
    else One s s2 [] (w64 (a+1)) fun L a=>Sg s s2 [58] L a fun L a=>One s s2 L a fun L a=>If s s2 L a
  orF (t.kind != 1) (resV t.s) (O.z op [] [] p a (wrongB t)) (
    bif sgA l (w64 (a+2)) [44] then orF ((tokA l (w64 (w64 (a+2)+1))).kind != 1) (resV (tokA l (w64 (w64 (a+2)+1))).s) (O.z op t.s [] p (w64 (a+2)) (wrongB (tokA l (w64 (w64 (a+2)+1)))))
        (In (tokA l (w64 (w64 (a+2)+1))).s t.s (w64 (w64 (a+2)+2)))
      else In t.s [] (w64 (a+2)))
def firstX (l:List TokR) (a:Int) (P:Deep β) (T:TokR→(ExprR→BadR→Option β)→Option β) (E:Str→Int→(PL→Option β)→Option β) (F:Str→Int→PosR→(PR→Option β)→Option β) (O:Out β):Option β :=
  let t:=tokA l a
  let E2:=E [125] (w64 (a+1)) fun x=>O.y 23 [] [] x.l t.p x.a x.b
  bif t.kind==2 then O.v 2 t.n [] t.p (w64 (a+1)) bad0
  else bif t.kind==3 then T t fun e b=>O.e ⟨e,w64 (a+1),b⟩
  else bif t.kind==1 then (bif t.s==[116,114,117,101] then O.v 1 1 [] t.p (w64 (a+1)) bad0 else bif t.s==[102,97,108,115,101] then O.v 1 0 [] t.p (w64 (a+1)) bad0 else bif t.s==[110,117,108,108] then O.v 0 0 [] t.p (w64 (a+1)) bad0
    else bif resV t.s then O.z 0 [] [] p00 a (wrongB t)
    else bif sgA l (w64 (a+1)) [40] then E [41] (w64 (a+2)) fun x=>O.y 5 t.s [] x.l t.p x.a x.b else O.z 2 t.s [] t.p (w64 (a+1)) bad0)
  else bif sgA l a [40] then P 0 (w64 (a+1)) fun r=>bif (!r.b.is)==true then (bif !(sgA l r.a [41]) then O.e ⟨r.e,w64 (r.a+1),wrongB (tokA l r.a)⟩ else O.e ⟨r.e,w64 (r.a+1),r.b⟩) else O.e ⟨r.e,w64 (r.a+1),r.b⟩
  else bif sgA l a [91] then (bif wdA l (w64 (a+1)) [102,111,114] then F [93] (w64 (a+1)) t.p O.e else E [93] (w64 (a+1)) fun x=>O.y 22 [] [] x.l t.p x.a x.b)
  else bif sgA l a [123] then (bif (wdA l (w64 (a+1)) [102,111,114]==true) then (bif ((!(sgA l (w64 (a+2)) [61]))==true) then (bif !(sgA l (w64 (a+2)) [58]) then F [125] (w64 (a+1)) t.p O.e else E2) else E2) else E2)
  else O.z 0 [] [] p00 a (wrongB t)
end
def thn {γ β:Type} (x:Option γ) (k:γ→Option β):Option β:=match x with
  | some r=>k r
  | none=>none
def OM:Out PR:=⟨some,fun k i s p a b=>some ⟨litE k i s p,a,b⟩,fun op s s2 l p a b=>some ⟨nodeE op s s2 l p,a,b⟩,fun op s s2 p a b=>some ⟨nodeE op s s2 [] p,a,b⟩,fun op s s2 l p a b=>some ⟨nodeE op s s2 l p,a,b⟩,fun op s s2 l p a b=>some ⟨nodeE op s s2 l p,a,b⟩⟩
abbrev Texts:=TokR→Option (ExprR×BadR)
abbrev Reads:=Nat→Int→Option PR
def dp {β:Type} (P:Reads):Deep β:=fun k a K=>thn (P k a) K
def tx {β:Type} (T:Texts):TokR→(ExprR→BadR→Option β)→Option β:=fun t K=>thn (T t) fun x=>K x.1 x.2
def lvL (l:List TokR) (lv:Nat) (P:Reads):Nat→PR→Option PR
  | 0,_=>none
  | m+1,r=>lvB id id l lv r (dp P) (lvL l lv P m) some
def postL (l:List TokR) (P:Reads):Nat→PR→Option (Bool×PR)
  | 0,_=>none
  | m+1,r=>postB id l r (dp P) (postL l P m) (fun r=>some (true,r)) (fun r=>some (false,r))
def exL (l:List TokR) (end':Str) (P:Reads) (T:Texts):Nat→List ExprR→Int→Option (Bool×PL)
  | 0,_,_=>none
  | m+1,out,a=>exB l end' out a (dp P) (tx T) (exL l end' P T m) (fun o a=>some (false,⟨o,a,bad0⟩)) (fun x=>some (true,x)) (fun o x K=>K (o++[x]))
def exFin (l:List TokR) (end':Str) (x:Bool×PL):PL:=bif x.1 then ⟨[],x.2.a,x.2.b⟩ else bif !(sgA l x.2.a end') then ⟨[],x.2.a,wrongB (tokA l x.2.a)⟩ else ⟨x.2.l,w64 (x.2.a+1),bad0⟩
def exsM (l:List TokR) (P:Reads) (T:Texts) (m:Nat) (end':Str) (a:Int):Option PL:=(exL l end' P T m [] a).map (exFin l end')
def forM (l:List TokR) (P:Reads) (e:Str) (a:Int) (p:PosR):Option PR:=bif e==[93] then forY 24 l a [93] p (dp P) OM else bif e==[125] then forY 25 l a [125] p (dp P) OM else none
def firstM (l:List TokR) (P:Reads) (T:Texts) (m:Nat) (a:Int):Option PR:=firstX l a (dp P) (tx T) (fun e a K=>thn (exsM l P T m e a) K) (fun e a p K=>thn (forM l P e a p) K) OM
def postM (l:List TokR) (P:Reads) (T:Texts) (m:Nat) (a:Int):Option PR:=thn (firstM l P T m a) fun r=>(postL l P m r).map (·.2)
def condM (l:List TokR) (P:Reads) (a:Int):Option PR:=condX l a (dp P) OM
def rdM (l:List TokR) (T:Texts):Nat→Reads
  | 0,_,_=>none
  | n+1,0,a=>condM l (rdM l T n) a
  | n+1,6,a=>unX l a (dp (rdM l T n)) OM
  | n+1,7,a=>postM l (rdM l T n) T n a
  | n+1,lv+1,a=>bif Nat.ble lv 4 then lvX (lv+1) a (dp (rdM l T n)) (fun r K=>thn (lvL l (lv+1) (rdM l T n) n r) K) OM else none
end Go.Proofs.YtlnkjdedeegajaaGreatDoor
namespace Go.Proofs.YtlnkjdedeegajaaGreatDoor
open Go.Eng
set_option maxRecDepth 100000
theorem RDles.of2 {cs es:List (D Pl)} (h:All2 X0.C cs es):RDles X0.C cs es:=by
  induction h with
  | nil=>exact .nil
  | cons h _ ih=>exact .cons (RDle.of h) ih
theorem tok_rdle {cs:List (D Pl)} {t:TokR} (h:dTok cs=some t):RDle X0.C (.agg cs) (.agg (cTok t)):=RDle.agg (RDles.of2 (Ty.dec_enc (C:=X0.C) (fun _=>rfl) .toks cs t h))
theorem ex_rdle {cs:List (D Pl)} {e:ExprR} (h:dExpr cs=some e):RDle X0.C (.agg cs) (.agg (cExpr e)):=RDle.agg (RDles.of2 (Ty.dec_enc (C:=X0.C) (fun _=>rfl) .exprs cs e h))
def cBad (b:BadR):List (D Pl):=[.bool b.is,dI b.c,dI b.p.at',dI b.p.line,dI b.p.col,.str []]
theorem eTok (l:List TokR) (a:Int):ev tell0 noTL 1 14 [.pl (pToks l) .any,dI a] =
    bif outA l a then some (.agg [dI 0,.str [],dI 0,.nilS,dI 0,dI 0,dI 0]) else
      ck_ ((decide (0≤a)&&decide (a < (l.length:Int)))||false) (some (.agg (cTok (l.getD a.toNat default)))):=by kernel_rfl
theorem outA_f {l:List TokR} {a:Int} (h:outA l a=false):0≤a∧a < (l.length:Int):=by
  unfold outA at h
  by_cases h1:a < 0
  · rw [decide_eq_true h1] at h;simp at h
  · rw [decide_eq_false h1] at h
    simp only [cond_false,decide_eq_false_iff_not] at h
    omega
theorem tok0_rdle:RDle X0.C (.agg [dI 0,.str [],dI 0,.nilS,dI 0,dI 0,dI 0]) (.agg (cTok tok00)):=tok_rdle rfl
theorem tok_sound (l:List TokR) (a:Int):Snd 14 [.pl (pToks l) .any,dI a] (.agg (cTok (tokA l a))):=by
  unfold tokA
  cases h:outA l a with
  | true=>exact (snd_of (tell0_ok _) (noTL_ok _ _) ((eTok l a).trans (by rw [h];rfl))).post tok0_rdle
  | false =>
    obtain ⟨h1,h2⟩:=outA_f h
    exact snd_of (tell0_ok _) (noTL_ok _ _) ((eTok l a).trans (by rw [h,cond_false,ck_t (by rw [decide_eq_true h1,decide_eq_true h2];rfl)];rfl))
def pTokD:List (D Pl)→Option (Bool×D Pl)
  | [.pl ⟨.toks,l⟩ .any,.int .i64 a]=>some (true,.agg (cTok (tokA l a)))
  | _=>none
theorem pTokD_ok:∀ds b d,pTokD ds=some (b,d)→b=true→Snd 14 ds d:=by
  intro ds b d h hb
  unfold pTokD at h
  split at h
  · simp only [Option.some.injEq,Prod.mk.injEq] at h;obtain ⟨_,rfl⟩:=h;exact tok_sound _ _
  · simp at h
def tTk (R:Eng.Told Pl):Eng.Told Pl:=tell 14 pTokD R
theorem tTk_ok {R:Eng.Told Pl} (h:TOk R):TOk (tTk R):=tell_ok pTokD_ok h
theorem eWrong (t:TokR):ev tell0 noTL 1 15 [.agg (cTok t)]=some (.agg (cBad (wrongB t))):=by kernel_rfl
def pWrong:List (D Pl)→Option (Bool×D Pl)
  | [.agg cs]=>match dTok cs with
    | some t=>some (true,.agg (cBad (wrongB t)))
    | none=>none
  | _=>none
theorem pWrong_ok:∀ds b d,pWrong ds=some (b,d)→b=true→Snd 15 ds d:=by
  intro ds b d h hb
  unfold pWrong at h
  split at h
  · split at h
    · rename_i h1
      simp only [Option.some.injEq,Prod.mk.injEq] at h
      obtain ⟨_,rfl⟩:=h
      exact (snd_of (tell0_ok _) (noTL_ok _ _) (eWrong _)).pre (.cons (tok_rdle h1) .nil)
    · simp at h
  · simp at h
theorem eSg (l:List TokR) (a:Int) (s:Str):ev (tTk tell0) noTL 1 29 [.pl (pToks l) .any,dI a,.str s]=some (.bool (sgA l a s)):=by kernel_rfl
theorem eWd (l:List TokR) (a:Int) (s:Str):ev (tTk tell0) noTL 1 87 [.pl (pToks l) .any,dI a,.str s]=some (.bool (wdA l a s)):=by kernel_rfl
def pTAS (f:List TokR→Int→Str→Bool):List (D Pl)→Option (Bool×D Pl)
  | [.pl ⟨.toks,l⟩ .any,.int .i64 a,.str s]=>some (true,.bool (f l a s))
  | _=>none
theorem pTAS_ok {g:FuncId} {f:List TokR→Int→Str→Bool} (hf:∀l a s,Snd g [.pl (pToks l) .any,dI a,.str s] (.bool (f l a s))):∀ds b d,pTAS f ds=some (b,d)→b=true→Snd g ds d:=by
  intro ds b d h hb
  unfold pTAS at h
  split at h
  · simp only [Option.some.injEq,Prod.mk.injEq] at h;obtain ⟨_,rfl⟩:=h;exact hf _ _ _
  · simp at h
theorem eRes (s:Str):ev tell0 noTL 1 85 [.str s]=some (.bool (bif bif bif bif bif s==[116,114,117,101] then true else s==[102,97,108,115,101] then true else s==[110,117,108,108] then true else s==[102,111,114] then true else s==[105,110] then true else s==[105,102])):=by kernel_rfl
theorem res_sound (s:Str):Snd 85 [.str s] (.bool (resV s)):=by
  refine snd_of (tell0_ok _) (noTL_ok _ _) ((eRes s).trans ?_)
  unfold resV
  cases s==[116,114,117,101]<;>cases s==[102,97,108,115,101]<;>cases s==[110,117,108,108]<;>cases s==[102,111,114]<;>cases s==[105,110]<;>rfl
theorem eOp (t:TokR):∀lv:Nat,1≤lv→lv≤5→ev tell0 noTL 1 30 [dI (lv:Nat),.agg (cTok t)]=bif t.kind != 4 then some (dI 0) else (match lv with
  | 1=>bif [124,124]==t.s then some (dI 20) else some (dI 0)
  | 2=>bif [38,38]==t.s then some (dI 19) else some (dI 0)
  | 3=>bif [60]==t.s then some (dI 13) else bif [60,61]==t.s then some (dI 14) else bif [62]==t.s then some (dI 15) else bif [62,61]==t.s then some (dI 16) else bif [61,61]==t.s then some (dI 17) else bif [33,61]==t.s then some (dI 18) else some (dI 0)
  | 4=>bif [43]==t.s then some (dI 11) else bif [45]==t.s then some (dI 12) else some (dI 0)
  | _=>bif [42]==t.s then some (dI 8) else bif [47]==t.s then some (dI 9) else bif [37]==t.s then some (dI 10) else some (dI 0))
  | 0,h,_=>by omega
  | 1,_,_=>by kernel_rfl
  | 2,_,_=>by kernel_rfl
  | 3,_,_=>by kernel_rfl
  | 4,_,_=>by kernel_rfl
  | 5,_,_=>by kernel_rfl
  | _+6,_,h=>by omega
theorem beq_sw (a b:Str):(a==b)=(b==a):=by rw [Bool.eq_iff_iff,beq_iff_eq,beq_iff_eq];exact eq_comm
theorem op_sound (t:TokR) (lv:Nat) (h1:1≤lv) (h2:lv≤5):Snd 30 [dI lv,.agg (cTok t)] (dI (opA lv t)):=by
  refine snd_of (tell0_ok _) (noTL_ok _ _) ((eOp t lv h1 h2).trans ?_)
  unfold opA
  rw [show (t.kind != 4)=!(t.kind==4) from rfl]
  cases t.kind==4 with
  | false=>rfl
  | true =>
    simp only [Bool.not_true,cond_false,cond_true]
    match lv,h1,h2 with
    | 1,_,_=>simp only [opS,beq_sw _ t.s];cases t.s==[124,124]<;>rfl
    | 2,_,_=>simp only [opS,beq_sw _ t.s];cases t.s==[38,38]<;>rfl
    | 3,_,_=>simp only [opS,beq_sw _ t.s];cases t.s==[60]<;>cases t.s==[60,61]<;>cases t.s==[62]<;>cases t.s==[62,61]<;>cases t.s==[61,61]<;>cases t.s==[33,61]<;>rfl
    | 4,_,_=>simp only [opS,beq_sw _ t.s];cases t.s==[43]<;>cases t.s==[45]<;>rfl
    | 5,_,_=>simp only [opS,beq_sw _ t.s];cases t.s==[42]<;>cases t.s==[47]<;>cases t.s==[37]<;>rfl
def pOpD:List (D Pl)→Option (Bool×D Pl)
  | [.int .i64 (.ofNat lv),.agg cs]=>match dTok cs with
    | some t=>some (Nat.ble 1 lv&&Nat.ble lv 5,dI (opA lv t))
    | none=>none
  | _=>none
theorem pOpD_ok:∀ds b d,pOpD ds=some (b,d)→b=true→Snd 30 ds d:=by
  intro ds b d h hb
  unfold pOpD at h
  split at h
  · split at h
    · rename_i h1
      simp only [Option.some.injEq,Prod.mk.injEq] at h
      obtain ⟨rfl,rfl⟩:=h
      rw [Bool.and_eq_true,Nat.ble_eq,Nat.ble_eq] at hb
      exact (op_sound _ _ hb.1 hb.2).pre (.cons (RDle.refl _) (.cons (tok_rdle h1) .nil))
    · simp at h
  · simp at h
def tH (R:Eng.Told Pl):Eng.Told Pl:=tTk (tell 15 pWrong (tell 29 (pTAS sgA) (tell 87 (pTAS wdA) (tell 85 (pS fun s=>.bool (resV s)) (tell 30 pOpD R)))))
theorem tH_ok {R:Eng.Told Pl} (h:TOk R):TOk (tH R):=tTk_ok (tell_ok pWrong_ok (tell_ok (pTAS_ok fun l a s=>snd_of (tTk_ok (tell0_ok _)) (noTL_ok _ _) (eSg l a s)) (tell_ok (pTAS_ok fun l a s=>snd_of (tTk_ok (tell0_ok _)) (noTL_ok _ _) (eWd l a s))
  (tell_ok (pS_ok res_sound) (tell_ok pOpD_ok h)))))
end Go.Proofs.YtlnkjdedeegajaaGreatDoor
namespace Go.Proofs.YtlnkjdedeegajaaGreatDoor
open Go.Eng
set_option maxRecDepth 100000
noncomputable abbrev evY (R:Eng.Told Pl) (TL:LoopsT Pl) (L:LK Pl) (n:Nat) (code:Code) (F Fr:Fix Pl) (S:St Pl):Option (Ex×St Pl) :=
  exec X0 (callK X0 F0 R TL n) L code S (fun e S=>some (e,fixS X0.C (match e with
    | .ret=>Fr
    | _=>F) S))
theorem goes_ofY {R:Eng.Told Pl} (hR:TOk R) {TL:LoopsT Pl} (hTL:LOk TL) {L:LK Pl} {n:Nat} {code:Code} {F Fr:Fix Pl} {S S':St Pl} {e:Ex} (hL:∀b∈loopsOf code,LoopOk X0 L b)
    (h:evY R TL L n code F Fr S=some (e,S')):GoesTo code S e S':=by
  obtain ⟨e1,S1,h1,h2⟩:=body_goes xok fok hR hTL hL h
  simp only [Option.some.injEq,Prod.mk.injEq] at h1
  obtain ⟨rfl,rfl⟩:=h1
  exact h2.weak (Weak.fix xok _ S1)
def okP {γ:Type} (x:Option γ):Bool:=x.isSome
def prP {γ:Type} [Inhabited γ] (x:Option γ):γ:=x.getD default
theorem okP_some {γ:Type} [Inhabited γ] {x:Option γ} (h:okP x=true):x=some (prP x):=by
  cases x with
  | none=>simp [okP] at h
  | some y=>rfl
def ckP {γ β:Type} [Inhabited γ] (x:Option γ) (K:γ→Option β):Option β:=ck_ (okP x) (K (prP x))
theorem ckP_eq {γ β:Type} [Inhabited γ] (x:Option γ) (K:γ→Option β):ckP x K=thn x K:=by cases x<;>rfl
def encPR (r:PR):D Pl:=.tup [.agg (cExpr r.e),dI r.a,.agg (cBad r.b)]
def cN (op:Int) (s s2:Str) (l:D Pl) (p:PosR):List (D Pl):=[dI op,.str s,.str s2,dI 0,dI 0,.str [],.nilS,.nilS,dI 0,dI 0,.bool false,l,dI p.at',dI p.line,dI p.col]
def cL (k i:Int) (s:Str) (p:PosR):List (D Pl):=[dI 1,.str [],.str [],dI k,dI i,.str s,.nilS,.nilS,dI 0,dI 0,.bool false,.nilS,dI p.at',dI p.line,dI p.col]
def etaP (p:PosR):PosR:=⟨p.at',p.line,p.col⟩
def etaV (v:Val):Val:=⟨v.kind,v.i,v.s,v.l,v.keys,v.tk,v.tof,v.sec⟩
def etaE (e:ExprR):ExprR:=⟨e.op,e.s,e.s2,etaV e.v,e.l,etaP e.p⟩
def etaT (t:TokR):TokR:=⟨t.kind,t.s,t.n,t.parts,etaP t.p⟩
theorem etaT_eq (t:TokR):etaT t=t:=rfl
theorem etaE_eq (e:ExprR):etaE e=e:=by
  obtain ⟨op,s,s2,⟨k,i,vs,vl,ks,tk,tof,sec⟩,l,p⟩:=e
  rfl
theorem etaL_eq (l:List ExprR):l.map etaE=l:=by
  induction l with
  | nil=>rfl
  | cons x r ih=>rw [List.map_cons,etaE_eq,ih]
def OD:Out (D Pl):=⟨fun r=>some (encPR r),fun k i s p a b=>some (.tup [.agg (cL k i s p),dI a,.agg (cBad b)]),fun op s s2 l p a b=>some (.tup [.agg (cN op s s2 (.pl (pExprs (l.map etaE)) .full) p),dI a,.agg (cBad b)]),
  fun op s s2 p a b=>some (.tup [.agg (cN op s s2 .nilS p),dI a,.agg (cBad b)]),fun op s s2 l p a b=>some (.tup [.agg (cN op s s2 (.pl (pExprs l) .any) p),dI a,.agg (cBad b)]),
  fun op s s2 l p a b=>some (.tup [.agg (cN op s s2 (.pl (pExprs (l.map etaE)) .any) p),dI a,.agg (cBad b)])⟩
def dk {β:Type} (P:Reads):Deep β:=fun k a K=>ckP (P k a) K
def pRd (P:List TokR→Reads):List (D Pl)→Option (Bool×D Pl)
  | [.pl ⟨.toks,l⟩ .any,.int .i64 a,.int .i64 (.ofNat k)]=>some (okP (P l k a),encPR (prP (P l k a)))
  | _=>none
def tRd (P:List TokR→Reads):Eng.Told Pl:=tH (tell 13 (pRd P) tell0)
def pTx (T:Texts):List (D Pl)→Option (Bool×D Pl)
  | [.agg cs]=>match dTok cs with
    | some t=>some (okP (T t),.tup [.agg (cExpr (prP (T t)).1),.agg (cBad (prP (T t)).2)])
    | none=>none
  | _=>none
abbrev Exps:=Str→Int→Option PL
abbrev Fors:=Str→Int→PosR→Option PR
def encPL (x:PL):D Pl:=.tup [.pl (pExprs x.l) .any,dI x.a,.agg (cBad x.b)]
def pEx (E:List TokR→Exps):List (D Pl)→Option (Bool×D Pl)
  | [.pl ⟨.toks,l⟩ .any,.int .i64 a,.str s]=>some (okP (E l s a),encPL (prP (E l s a)))
  | _=>none
def pFo (F:List TokR→Fors):List (D Pl)→Option (Bool×D Pl)
  | [.pl ⟨.toks,l⟩ .any,.int .i64 a,.str s,.agg [.int .i64 x,.int .i64 y,.int .i64 z]]=>some (okP (F l s a ⟨x,y,z⟩),encPR (prP (F l s a ⟨x,y,z⟩)))
  | _=>none
def tFi (P:List TokR→Reads) (T:Texts) (E:List TokR→Exps) (F:List TokR→Fors):Eng.Told Pl :=
  tH (tell 13 (pRd P) (tell 84 (pTx T) (tell 86 (pEx E) (tell 88 (pFo F) tell0))))
def tk {β:Type} (T:Texts):TokR→(ExprR→BadR→Option β)→Option β:=fun t K=>ckP (T t) fun x=>K x.1 x.2
def pC1 (C:List TokR→Int→Option PR):List (D Pl)→Option (Bool×D Pl)
  | [.pl ⟨.toks,l⟩ .any,.int .i64 a]=>some (okP (C l a),encPR (prP (C l a)))
  | _=>none
abbrev Conds:=List TokR→Int→Option PR
def tRr (P:List TokR→Reads) (C D:Conds):Eng.Told Pl:=tH (tell 13 (pRd P) (tell 27 (pC1 C) (tell 28 (pC1 D) tell0)))
def zE:List (D Pl):=cN 0 [] [] .nilS p00
def zB:List (D Pl):=cBad bad0
def sRd (l:List TokR) (lv:Nat) (r:PR):St Pl:=mkS 120 [(0,.pl (pToks l) .any),(1,dI r.a),(2,dI lv),(6,.ptr 6 0),(7,dI 0),(8,.ptr 8 0),(14,.ptr 14 0),(15,.ptr 15 0)] [(15,.box false (cBad r.b)),(14,.box false (cExpr r.e)),(8,.box false zB),(6,.box false zE)]
def FRd:Fix Pl:={ keep:=[0,1,2,6,7,8,14,15],lose:=[16,17,19],wid:=[(14,6,pVals []),(14,7,pStrs []),(14,11,pExprs [])],ord:=[15,14,8,6] }
def tPo (P:List TokR→Reads) (C:Conds):Eng.Told Pl:=tH (tell 13 (pRd P) (tell 49 (pC1 C) tell0))
def sPs (l:List TokR) (r:PR):St Pl:=mkS 91 [(0,.pl (pToks l) .any),(1,dI r.a),(4,.ptr 4 0),(5,dI 0),(6,.ptr 6 0),(7,.ptr 7 0),(8,.ptr 8 0)] [(8,.box false (cBad r.b)),(7,.box false (cExpr r.e)),(6,.box false zB),(4,.box false zE)]
def FPs:Fix Pl:={ keep:=[0,1,4,5,6,7,8],lose:=[9,10,11,13],wid:=[(7,6,pVals []),(7,7,pStrs []),(7,11,pExprs [])],ord:=[8,7,6,4] }
def FPsR:Fix Pl:={ keep:=[0,4,5,6],lose:=[7,8,9,10,11,13],wid:=[(4,6,pVals []),(4,7,pStrs []),(4,11,pExprs [])],ord:=[6,4] }
def sPsR (l:List TokR) (r:PR):St Pl:=mkS 91 [(0,.pl (pToks l) .any),(4,.ptr 4 0),(5,dI r.a),(6,.ptr 6 0)] [(6,.box false (cBad r.b)),(4,.box false (cExpr r.e))]
def tEx (P:List TokR→Reads) (T:Texts):Eng.Told Pl:=tH (tell 13 (pRd P) (tell 84 (pTx T) tell0))
def sEx (l:List TokR) (s:Str) (out:List ExprR) (a:Int):St Pl:=mkS 115 [(0,.pl (pToks l) .any),(1,dI a),(2,.str s),(6,.nilS),(7,dI 0),(8,.ptr 8 0),(9,.arr 93)] [(93,.arr false (pExprs out)),(8,.box false zB)]
def sExR (l:List TokR) (s:Str) (x:PL):St Pl:=mkS 115 [(0,.pl (pToks l) .any),(2,.str s),(6,.nilS),(7,dI x.a),(8,.ptr 8 0)] [(8,.box false (cBad x.b))]
def FEx:Fix Pl:={ keep:=[0,1,2,6,7,8,9],lose:=[10,11,12,13,14,16],ord:=[93,8] }
def FExR:Fix Pl:={ keep:=[0,2,6,7,8],lose:=[10,11,12,13,14,16,78,93] }
def apE {β:Type} (o:List ExprR) (x:ExprR) (k:List ExprR→Option β):Option β:=apK 192 o (etaE x) k
end Go.Proofs.YtlnkjdedeegajaaGreatDoor
