/-
 THE LEXER ON A TEXT IN BRACKETS: the same tokens, one further on. Plainly.
-/
import Derived.Test.YtcgbgcconigdbaaGreatDoorMir3
namespace Go.Proofs.YtcgbgcconigdbaaGreatDoor
open Go.Eng
def br (s:Str):Str:=40::(s++[10,41])
theorem br_len (s:Str):(br s).length=s.length+3:=by simp [br]
theorem br_getD {s:Str} {p:Nat} (h:p < s.length):(br s).getD (p+1) 0=s.getD p 0:=by
 unfold br
 rw [List.getD_cons_succ,List.getD_eq_getElem?_getD,List.getD_eq_getElem?_getD,List.getElem?_append_left h]
theorem br_at {s:Str} {p:Nat} (h:p < s.length):byt (br s) (p+1)=byt s p:=by
 unfold byt
 rw [br_getD h]
theorem br_10 (s:Str):byt (br s) (s.length+1)=10:=by
 unfold byt br
 rw [List.getD_cons_succ,List.getD_eq_getElem?_getD,List.getElem?_append_right (Nat.le_refl _),Nat.sub_self]
 rfl
theorem br_41 (s:Str):byt (br s) (s.length+2)=41:=by
 unfold byt br
 rw [show s.length+2=(s.length+1)+1 by omega,List.getD_cons_succ,List.getD_eq_getElem?_getD,List.getElem?_append_right (by omega),show s.length+1 - s.length=1 by omega]
 rfl
theorem ff_uniq {n m:Nat} {p:Nat→Bool} (h1:∀i,i < m→p i=true) (h2:m=n∨(m < n∧p m=false)):ff p n=m:=by
 rcases ff_spec n p with ⟨h,ha⟩ | ⟨hl,hf,ha⟩
 ·rcases h2 with h2 | ⟨h2,h3⟩
  ·omega
  ·rw [ha m h2] at h3;cases h3
 ·rcases Nat.lt_trichotomy (ff p n) m with h | h | h
  ·rw [h1 _ h] at hf;cases hf
  ·exact h
  ·rcases h2 with h2 | ⟨h2,h3⟩
   ·omega
   ·rw [ha m h] at h3;cases h3
theorem ff_ext {n n':Nat} {p q:Nat→Bool} (hn:n < n') (h:∀i,i < n→q i=p i) (he:q n=false):ff q n'=ff p n:=by
 rcases ff_spec n p with ⟨e,ha⟩ | ⟨hl,hf,ha⟩
 ·rw [e]
  exact ff_uniq (fun i hi=>by rw [h i hi];exact ha i hi) (.inr ⟨hn,he⟩)
 ·exact ff_uniq (fun i hi=>by rw [h i (by omega)];exact ha i hi) (.inr ⟨by omega,by rw [h _ hl];exact hf⟩)
theorem runM_br {s:Str} {p:Nat} (hp:p≤s.length):runM (br s) (p+1)=runM s p:=by
 unfold runM
 refine ff_ext (by rw [br_len];omega) (fun i hi=>?_) ?_
 ·rw [show p+1+i=(p+i)+1 by omega,br_at (by omega)]
 ·rw [show p+1+(s.length - p)=s.length+1 by omega,br_10]
  rfl
theorem cmt_br {s:Str} {p:Nat} (hp:p≤s.length):cmt (br s) (p+1)=cmt s p:=by
 unfold cmt
 rw [List.length_drop,List.length_drop]
 refine ff_ext (by rw [br_len];omega) (fun i hi=>?_) ?_
 ·rw [byt_drop,byt_drop,show p+1+i=(p+i)+1 by omega,br_at (by omega)]
 ·rw [byt_drop,show p+1+(s.length - p)=s.length+1 by omega,br_10]
  rfl
theorem pcn_br {s:Str} {p:Nat} (hp:p≤s.length):pcn (br s) (p+1)=pcn s p:=by
 unfold pcn
 rw [List.length_drop,List.length_drop]
 refine ff_ext (by rw [br_len];omega) (fun i hi=>?_) ?_
 ·rw [byt_drop,byt_drop,show p+1+i=(p+i)+1 by omega,br_at (by omega)]
 ·rw [byt_drop,show p+1+(s.length - p)=s.length+1 by omega,br_10]
  rfl
theorem pcOk_br {s:Str} {p:Nat} (hp:p≤s.length) (h:pcOk s p=true):pcOk (br s) (p+1)=true:=by
 have hlt:=pcOk_lt h
 unfold pcOk at h ⊢
 rw [Bool.and_eq_true] at h
 rw [pcn_br hp,List.length_drop,br_len,show p+1+pcn s p=(p+pcn s p)+1 by omega,br_at hlt,h.2,blt_t (by omega)]
 rfl
theorem sl_br {s:Str} {p n:Nat} (h:p+n≤s.length):sl (br s) (p+1) n=sl s p n:=by
 unfold sl br
 rw [List.drop_succ_cons,List.drop_append,List.take_append_of_le_length (by rw [List.length_drop];omega)]
theorem two_br {s:Str} {p:Nat} (h:p < s.length) {a b:Int} (h0:b≠0) (h1:b≠10):two (br s) (p+1) a b=two s p a b:=by
 unfold two
 rw [br_at h]
 rcases Nat.lt_or_ge (p+1) s.length with h2 | h2
 ·rw [br_at h2]
 ·rw [show p+1+1=s.length+1 by omega,br_10,byt_out (s:=s) (p:=p+1) (by omega),show ((10:Int)==b)=false from beq_eq_false_iff_ne.2 (fun e=>h1 e.symm),show ((0:Int)==b)=false from beq_eq_false_iff_ne.2 (fun e=>h0 e.symm)]
theorem twoS_br {s:Str} {p:Nat} (h:p < s.length):twoS (br s) (p+1)=twoS s p:=by
 unfold twoS
 rw [two_br h (by decide) (by decide),two_br h (by decide) (by decide),two_br h (by decide) (by decide),two_br h (by decide) (by decide),two_br h (by decide) (by decide),two_br h (by decide) (by decide),two_br h (by decide) (by decide)]
theorem blank_br (s:Str):∀(n p:Nat),s.length - p=n→p≤s.length→blankM (br s) (p+1)=bif Nat.blt (blankM s p) s.length then blankM s p+1 else s.length+2:=by
 intro n
 induction n using Nat.strongRecOn with
 | _ n ih =>
  intro p hn hp
  rcases Nat.lt_or_ge p s.length with h | h
  ·rw [blankM_eq (s:=br s) (p:=p+1) (by rw [br_len];omega),blankM_eq h,br_at h]
   cases hB:isB (byt s p) with
   | true =>
    simp only [cond_true]
    exact ih (s.length - (p+1)) (by omega) (p+1) rfl (by omega)
   | false =>
    cases hc:byt s p==35 with
    | true =>
     have h1:=cmt_pos h hc
     have h2:=cmt_le s p
     simp only [cond_true,cond_false]
     rw [cmt_br hp,show p+1+cmt s p=(p+cmt s p)+1 by omega]
     exact ih (s.length - (p+cmt s p)) (by omega) (p+cmt s p) rfl (by omega)
    | false =>
     simp only [cond_false]
     rw [blt_t h]
     rfl
  ·obtain rfl:p=s.length:=by omega
   rw [blankM_end (s:=s) (by omega),blt_f (by omega),cond_false,blankM_eq (by rw [br_len];omega),br_10,show isB 10=true from rfl,cond_true,blankM_eq (by rw [br_len];omega),br_41]
   rfl
def pk (l:List PartR):List (Bool×Str):=l.map fun x=>(x.expr,x.s)
theorem pk_app (l r:List PartR):pk (l++r)=pk l++pk r:=by unfold pk;rw [List.map_append]
theorem pk_fl {o o':List PartR} (h:pk o'=pk o) (b:Str):pk (fl o' b)=pk (fl o b):=by
 cases b with
 | nil=>exact h
 | cons x b=>simp only [fl,pk_app,h]
theorem psum_pk:∀{l l':List PartR},pk l'=pk l→psum l'=psum l
 | [],[],_=>rfl
 | [],_::_,h=>by simp [pk] at h
 | _::_,[],h=>by simp [pk] at h
 | x::l,y::l',h=>by
  simp only [pk,List.map_cons,List.cons.injEq,Prod.mk.injEq] at h
  simp only [psum,h.1.2]
  rw [psum_pk (l:=l) (l':=l') h.2]
theorem body_br (s:Str):∀(n p:Nat) (out out':List PartR) (b:Str),s.length - p=n→p≤s.length→pk out'=pk out→(bodyM s p out b).ok=true →
  (bodyM (br s) (p+1) out' b).ok=true∧(bodyM (br s) (p+1) out' b).q=(bodyM s p out b).q+1∧pk (bodyM (br s) (p+1) out' b).l=pk (bodyM s p out b).l:=by
 intro n
 induction n using Nat.strongRecOn with
 | _ n ih =>
  intro p out out' b hn hp ho hok
  rcases Nat.lt_or_ge p s.length with h | h
  ·rw [bodyM_eq] at hok ⊢
   rw [bodyM_eq (s:=s)]
   rw [blt_t h] at hok ⊢
   rw [blt_t (a:=p+1) (b:=(br s).length) (by rw [br_len];omega),br_at h,br_getD h]
   simp only [Bool.not_true,cond_false] at hok ⊢
   cases c1:byt s p==34 with
   | true=>exact ⟨rfl,rfl,pk_fl ho b⟩
   | false =>
   rw [c1,cond_false] at hok
   cases c2:byt s p==10 with
   | true=>rw [c2,cond_true] at hok;cases hok
   | false =>
   rw [c2,cond_false] at hok
   cases c3:byt s p==92 with
   | true =>
    rw [c3,cond_true] at hok
    rcases Nat.lt_or_ge (p+1) s.length with h2 | h2
    ·rw [blt_t h2] at hok ⊢
     rw [blt_t (a:=p+1+1) (b:=(br s).length) (by rw [br_len];omega),br_at h2]
     simp only [Bool.not_true,cond_true,cond_false] at hok ⊢
     cases c4:escB (byt s (p+1)) with
     | true =>
      rw [c4,cond_true] at hok
      exact ih (s.length - (p+2)) (by omega) (p+2) out out' _ rfl (by omega) ho hok
     | false=>rw [c4,cond_false] at hok;cases hok
    ·rw [blt_f (by omega)] at hok;cases hok
   | false =>
   rw [c3,cond_false] at hok
   rw [two_br h (by decide) (by decide)]
   cases c4:two s p 36 123 with
   | true =>
    have h1:=two_in c4 (by decide)
    rw [c4,cond_true] at hok
    cases c5:pcOk s (p+2) with
    | true =>
     have hlt:=pcOk_lt c5
     rw [c5,cond_true] at hok
     rw [show p+1+2=(p+2)+1 by omega,pcOk_br (by omega) c5,pcn_br (by omega)]
     simp only [cond_true,cond_false]
     have:=ih (s.length - (p+2+pcn s (p+2)+1)) (by omega) (p+2+pcn s (p+2)+1) (fl out b++[pieceR s (p+2)]) (fl out' b++[pieceR (br s) (p+2+1)]) [] rfl (by omega) ?_ hok
     ·rw [show p+2+1+pcn s (p+2)+1=p+2+pcn s (p+2)+1+1 by omega]
      exact this
     ·rw [pk_app,pk_app,pk_fl ho b]
      simp only [pk,pieceR,List.map_cons,List.map_nil]
      rw [pcn_br (by omega),sl_br (by omega)]
    | false=>rw [c5,cond_false] at hok;cases hok
   | false =>
    rw [c4,cond_false] at hok
    exact ih (s.length - (p+1)) (by omega) (p+1) out out' _ rfl (by omega) ho hok
  ·rw [bodyM_eq,blt_f (by omega)] at hok
   cases hok
structure TRel (t u:TokR):Prop where
 kind:u.kind=t.kind
 s:u.s=t.s
 n:u.n=t.n
 parts:pk u.parts=pk t.parts
theorem tok_br {s:Str} {b:Nat} (h:b < s.length) (he:((tokO s b).e==0)=true):((tokO (br s) (b+1)).e==0)=true∧(tokO (br s) (b+1)).q=(tokO s b).q+1∧TRel (tokO s b).t (tokO (br s) (b+1)).t:=by
 have nb:∀{x y:Nat},x < y→Nat.beq x y=false:=fun {x y} h=>by
  cases hb:Nat.beq x y with
  | false=>rfl
  | true=>have:=Nat.eq_of_beq_eq_true hb;omega
 have hr:=runM_le s b
 unfold tokO at he ⊢
 rw [nb h,cond_false] at he ⊢
 rw [nb (x:=b+1) (y:=(br s).length) (by rw [br_len];omega),cond_false,br_at h]
 cases c1:letB (byt s b) with
 | true =>
  rw [c1,cond_true] at he
  simp only [cond_true]
  unfold nameO at he ⊢
  rw [runM_br (by omega),sl_br (by omega)]
  exact ⟨he,(by show b+1+_=b+_+1;omega),rfl,rfl,rfl,rfl⟩
 | false =>
 rw [c1,cond_false] at he
 simp only [cond_false]
 cases c2:digB (byt s b) with
 | true =>
  rw [c2,cond_true] at he
  simp only [cond_true]
  unfold numO at he ⊢
  rw [runM_br (by omega),sl_br (by omega)]
  exact ⟨he,(by show b+1+_=b+_+1;omega),rfl,rfl,rfl,rfl⟩
 | false =>
 rw [c2,cond_false] at he
 simp only [cond_false]
 cases c3:byt s b==34 with
 | true =>
  rw [c3,cond_true] at he
  simp only [cond_true]
  unfold textO at he ⊢
  cases c4:(bodyM s (b+1) [] []).ok with
  | false=>rw [c4] at he;cases he
  | true =>
   obtain ⟨q1,q2,q3⟩:=body_br s _ (b+1) [] [] [] rfl (by omega) rfl c4
   rw [c4,cond_true] at he
   rw [q1,cond_true,cond_true]
   simp only at he ⊢
   rw [psum_pk q3]
   exact ⟨he,q2,rfl,rfl,rfl,q3⟩
 | false =>
 rw [c3,cond_false] at he
 simp only [cond_false]
 unfold signO at he ⊢
 rw [twoS_br h,br_at h]
 cases c4:twoS s b with
 | nil =>
  rw [c4] at he
  simp only at he ⊢
  cases c5:isOne (byt s b) with
  | false=>rw [c5] at he;cases he
  | true =>
   simp only [cond_true]
   rw [sl_br (by omega)]
   exact ⟨by first | trivial | rfl,by first | trivial | rfl,rfl,rfl,rfl,rfl⟩
 | cons x r =>
  simp only
  exact ⟨by first | trivial | rfl,by first | trivial | omega,rfl,rfl,rfl,rfl⟩
structure Accs (A B:List TokR):Prop where
 len:B.length=A.length+1
 at':∀i,i < A.length→TRel (A.getD i default) (B.getD (i+1) default)
 nz:∀i,i < A.length→(A.getD i default).kind≠0
 k0:(B.getD 0 default).kind=4
 s0:(B.getD 0 default).s=[40]
theorem getD_app {α:Type} {d:α} {A:List α} {x:α} (i:Nat):(A++[x]).getD i d=if i < A.length then A.getD i d else if i=A.length then x else d:=by
 rw [List.getD_eq_getElem?_getD]
 split
 ·rename_i h;rw [List.getElem?_append_left h,List.getD_eq_getElem?_getD]
 ·split
  ·rename_i h;subst h;simp
  ·rw [List.getElem?_eq_none (by simp;omega)];rfl
theorem Accs.add {A B:List TokR} (h:Accs A B) {t u:TokR} (ht:TRel t u) (hk:t.kind≠0):Accs (A++[t]) (B++[u]):=by
 have hl:=h.len
 have h00:(B++[u]).getD 0 default=B.getD 0 default:=by rw [getD_app,if_pos (by omega)]
 refine ⟨by simp [h.len],fun i hi=>?_,fun i hi=>?_,by rw [h00];exact h.k0,by rw [h00];exact h.s0⟩
 rw [List.length_append,List.length_singleton] at hi
 rw [getD_app,getD_app]
 rcases Nat.lt_or_ge i A.length with h1 | h1
 ·rw [if_pos h1,if_pos (by omega)]
  exact h.at' i h1
 ·rw [if_neg (by omega),if_pos (by omega),if_neg (by omega),if_pos (by omega)]
  exact ht
 ·rw [List.length_append,List.length_singleton] at hi
  rw [getD_app]
  rcases Nat.lt_or_ge i A.length with h1 | h1
  ·rw [if_pos h1]
   exact h.nz i h1
  ·rw [if_neg (by omega),if_pos (by omega)]
   exact hk
def Both (l1 l2:List TokR):Prop:=∃A B t0 t1 t2,l1=A++[t0]∧l2=(B++[t1])++[t2]∧Accs A B∧t0.kind=0∧t1.kind=4∧t1.s=[41]∧t2.kind=0
theorem tok_end (s:Str):tokO s s.length=⟨tok0 s s.length,s.length,0⟩:=by
 unfold tokO
 rw [Nat.beq_refl];rfl
theorem tok_41 (s:Str):tokO (br s) (s.length+2)=⟨⟨4,[41],0,[],posR (br s) (s.length+2)⟩,s.length+3,0⟩:=by
 have h1:Nat.beq (s.length+2) (br s).length=false:=by
  cases hb:Nat.beq (s.length+2) (br s).length with
  | false=>rfl
  | true=>have:=Nat.eq_of_beq_eq_true hb;rw [br_len] at this;omega
 have h2:sl (br s) (s.length+2) 1=[41]:=by
  unfold sl br
  rw [show s.length+2=(s.length+1)+1 by omega,List.drop_succ_cons,List.drop_append,List.drop_eq_nil_of_le (by omega),show s.length+1 - s.length=1 by omega]
  rfl
 have h3:twoS (br s) (s.length+2)=[]:=by
  unfold twoS two
  rw [br_41]
  rfl
 unfold tokO
 rw [h1,br_41]
 show signO (br s) (s.length+2)=_
 unfold signO
 rw [h3,br_41,h2]
 rfl
theorem allK_br (s:Str):∀(k p:Nat) (A B:List TokR),p≤s.length→s.length - p < k→Accs A B→(allK k s p A).bad=0 →
  (allK (k+2) (br s) (p+1) B).bad=0∧Both (allK k s p A).l (allK (k+2) (br s) (p+1) B).l
 | 0,p,A,B,_,h,_,_=>by omega
 | k+1,p,A,B,hp,hk,hA,hbad=>by
  have hb:=blankM_in s _ p rfl hp
  have hbl:=blank_br s _ p rfl hp
  simp only [allK] at hbad
  rw [show k+1+2=(k+2)+1 by omega]
  simp only [allK]
  cases he:(tokO s (blankM s p)).e==0 with
  | false =>
   rw [he] at hbad
   rw [show (tokO s (blankM s p)).e=0 from hbad] at he
   simp at he
  | true =>
   rw [he] at hbad
   simp only [Bool.not_true,cond_false] at hbad ⊢
   obtain ⟨h1,_,h2⟩:=tokO_in hb.2 he
   rcases h2 with ⟨h2,h3⟩ | ⟨h2,h3⟩
   ·
    rw [h3,blt_f (by omega),cond_false] at hbl
    rw [h2,cond_true,hbl,tok_41,h3,tok_end]
    have hb2:blankM (br s) (s.length+3)=s.length+3:=blankM_end (by rw [br_len];omega)
    have ht2:tokO (br s) (s.length+3)=⟨tok0 (br s) (s.length+3),s.length+3,0⟩:=by
     have:=tok_end (br s)
     rwa [br_len] at this
    simp only [hb2,ht2,tok0]
    exact ⟨rfl,A,B,_,_,_,rfl,rfl,hA,rfl,rfl,rfl,rfl⟩
   ·have hlt:blankM s p < s.length:=by omega
    rw [blt_t hlt,cond_true] at hbl
    obtain ⟨t1,t2,t3⟩:=tok_br hlt he
    rw [h2,cond_false] at hbad ⊢
    rw [hbl,t1,t3.kind,h2,t2]
    simp only [Bool.not_true,cond_false]
    exact allK_br s k _ _ _ h1 (by omega) (hA.add t3 (by simpa using h2)) hbad
theorem allM_br {s:Str} (hs:s.length≤30000) (hbad:(allM s).bad=0):(allM (br s)).bad=0∧Both (allM s).l (allM (br s)).l:=by
 unfold allM at hbad ⊢
 rw [blt_f (show ¬ 32768 < s.length by omega),cond_false] at hbad
 rw [blt_f (show ¬ 32768 < s.length by omega),blt_f (show ¬ 32768 < (br s).length by rw [br_len];omega),cond_false,cond_false,br_len]
 have h40:byt (br s) 0=40:=rfl
 have hb0:blankM (br s) 0=0:=by
  rw [blankM_eq (by rw [br_len];omega),h40]
  rfl
 have hto:tokO (br s) 0=⟨⟨4,[40],0,[],posR (br s) 0⟩,1,0⟩:=by
  have h1:Nat.beq 0 (br s).length=false:=by rw [br_len];rfl
  have h3:twoS (br s) 0=[]:=by
   unfold twoS two
   rw [h40]
   rfl
  unfold tokO
  rw [h1,h40]
  show signO (br s) 0=_
  unfold signO
  rw [h3,h40]
  rfl
 have step:allK (s.length+3+1) (br s) 0 []=allK (s.length+1+2) (br s) (0+1) [⟨4,[40],0,[],posR (br s) 0⟩]:=by
  conv=>lhs;rw [allK]
  rw [hb0,hto]
  rfl
 rw [step]
 exact allK_br s (s.length+1) 0 [] _ (by omega) (by omega) ⟨rfl,(fun i hi=>by simp at hi),(fun i hi=>by simp at hi),rfl,rfl⟩ hbad
end Go.Proofs.YtcgbgcconigdbaaGreatDoor
