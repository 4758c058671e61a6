/-
 THE DOCUMENT's READER, plainly, under the names that the laws know: a string's tree, a text's expression, how deep it is.
-/
import Derived.Test.YtcgbgcconigdbaaGreatDoorAll
namespace Go.Proofs.YtcgbgcconigdbaaGreatDoor
open Go.Eng
theorem ff_at {p:Nat→Bool} {n i:Nat} (h:i < ff p n):p i=true:=by
 rcases ff_spec n p with ⟨_,h2⟩ | ⟨_,_,h2⟩
 ·exact h2 i (by rename_i h1;omega)
 ·exact h2 i h
theorem bodyM_many (s:Str):∀(n p:Nat) (out:List PartR) (b:Str),s.length - p=n→p≤s.length→(bodyM s p out b).l.length≤out.length+1+(s.length - p):=by
 intro n
 induction n using Nat.strongRecOn with
 | _ n ih =>
  intro p out b hn hp
  rw [bodyM_eq]
  rcases Nat.lt_or_ge p s.length with h | h
  ·rw [blt_t h]
   simp only [Bool.not_true,cond_false]
   cases byt s p==34 with
   | true=>have:=fl_len out b;simp only [cond_true];omega
   | false =>
   cases byt s p==10 with
   | true=>simp
   | false =>
   cases byt s p==92 with
   | true =>
    simp only [cond_true,cond_false]
    rcases Nat.lt_or_ge (p+1) s.length with h2 | h2
    ·rw [blt_t h2]
     simp only [Bool.not_true,cond_false]
     cases escB (byt s (p+1)) with
     | true=>have:=ih (s.length - (p+2)) (by omega) (p+2) out (b++[(escV (byt s (p+1))).toNat.toUInt8]) rfl (by omega);simp only [cond_true];omega
     | false=>simp
    ·rw [blt_f (by omega)];simp
   | false =>
   cases h36:two s p 36 123 with
   | true =>
    simp only [cond_true,cond_false]
    have h1:=two_in h36 (by omega)
    cases hpc:pcOk s (p+2) with
    | true =>
     have hlt:=pcOk_lt hpc
     have:=ih (s.length - (p+2+pcn s (p+2)+1)) (by omega) (p+2+pcn s (p+2)+1) (fl out b++[pieceR s (p+2)]) [] rfl (by omega)
     have h3:=fl_len out b
     rw [List.length_append,List.length_singleton] at this
     simp only [cond_true];omega
    | false=>simp
   | false =>
    have:=ih (s.length - (p+1)) (by omega) (p+1) out (b++[s.getD p 0]) rfl (by omega)
    simp only [cond_false];omega
  ·rw [blt_f (by omega)];simp
end Go.Proofs.YtcgbgcconigdbaaGreatDoor
namespace Go.Proofs.YtcgbgcconigdbaaGreatDoor
open Go.Eng
structure BadR where
 is:Bool
 c:Int
 p:PosR
 deriving Inhabited
structure PR where
 e:ExprR
 a:Int
 b:BadR
 deriving Inhabited
def p00:PosR:=⟨0,0,0⟩
def bad0:BadR:=⟨false,0,p00⟩
def wrongB (t:TokR):BadR:=⟨true,4,t.p⟩
def v00:Val:=⟨0,0,[],[],[],0,0,false⟩
def e00:ExprR:=⟨0,[],[],v00,[],p00⟩
def litE (k i:Int) (s:Str) (p:PosR):ExprR:=⟨1,[],[],⟨k,i,s,[],[],0,0,false⟩,[],p⟩
def nodeE (op:Int) (s s2:Str) (l:List ExprR) (p:PosR):ExprR:=⟨op,s,s2,v00,l,p⟩
def tok00:TokR:=⟨0,[],0,[],p00⟩
def outA (l:List TokR) (a:Int):Bool:=bif decide (a < 0) then true else decide (a ≥ (l.length:Int))
def tokA (l:List TokR) (a:Int):TokR:=bif outA l a then tok00 else l.getD a.toNat default
def sgA (l:List TokR) (a:Int) (s:Str):Bool:=bif (tokA l a).kind==4 then (tokA l a).s==s else false
def wdA (l:List TokR) (a:Int) (s:Str):Bool:=bif (tokA l a).kind==1 then (tokA l a).s==s else false
def resV (s:Str):Bool:=bif s==[116,114,117,101] then true else bif s==[102,97,108,115,101] then true else bif s==[110,117,108,108] then true else bif s==[102,111,114] then true else bif s==[105,110] then true else s==[105,102]
def opS (lv:Nat) (s:Str):Int:=match lv with
 | 1=>bif s==[124,124] then 20 else 0
 | 2=>bif s==[38,38] then 19 else 0
 | 3=>bif s==[60] then 13 else bif s==[60,61] then 14 else bif s==[62] then 15 else bif s==[62,61] then 16 else bif s==[61,61] then 17 else bif s==[33,61] then 18 else 0
 | 4=>bif s==[43] then 11 else bif s==[45] then 12 else 0
 | 5=>bif s==[42] then 8 else bif s==[47] then 9 else bif s==[37] then 10 else 0
 | _=>0
def opA (lv:Nat) (t:TokR):Int:=bif t.kind==4 then opS lv t.s else 0
abbrev Deep (β:Type):=Nat→Int→(PR→Option β)→Option β
structure Out (β:Type) where
 e:PR→Option β
 v:Int→Int→Str→PosR→Int→BadR→Option β
 n:Int→Str→Str→List ExprR→PosR→Int→BadR→Option β
 z:Int→Str→Str→PosR→Int→BadR→Option β
 y:Int→Str→Str→List ExprR→PosR→Int→BadR→Option β
 g:Int→Str→Str→List ExprR→PosR→Int→BadR→Option β
structure PL where
 l:List ExprR
 a:Int
 b:BadR
 deriving Inhabited
section
variable {β:Type}
def orF (x y:Bool) (A B:Option β):Option β:=bif (x==false) then (bif y then A else B) else A
def condX (l:List TokR) (a:Int) (P:Deep β) (O:Out β):Option β :=
 P 1 a fun r=>orF r.b.is (!(sgA l r.a [63])) (O.e r) (
  P 0 (w64 (r.a+1)) fun x=>bif x.b.is then O.e ⟨r.e,x.a,x.b⟩ else bif !(sgA l x.a [58]) then O.e ⟨r.e,x.a,wrongB (tokA l x.a)⟩ else
   P 0 (w64 (x.a+1)) fun y=>O.n 21 [] [] [r.e,x.e,y.e] (tokA l r.a).p y.a y.b)
def unX (l:List TokR) (a:Int) (P:Deep β) (O:Out β):Option β :=
 let N:=fun op:Int=>P 6 (w64 (a+1)) fun x=>O.n op [] [] [x.e] (tokA l a).p x.a x.b
 bif sgA l a [33] then (bif sgA l a [45] then N 7 else N 6) else (bif sgA l a [45] then N 7 else P 7 a O.e)
def lvB (h:ExprR→ExprR) (ht:TokR→TokR) (l:List TokR) (lv:Nat) (r:PR) (P:Deep β) (N X:PR→Option β):Option β :=
 bif (!r.b.is)==true then (bif decide (opA lv (tokA l r.a) > 0) then P (lv+1) (w64 (r.a+1)) fun x =>
   (bif Nat.beq lv 3 then X ⟨nodeE (opA lv (ht (tokA l r.a))) [] [] [h r.e,h x.e] (tokA l r.a).p,x.a,x.b⟩ else N ⟨nodeE (opA lv (ht (tokA l r.a))) [] [] [h r.e,h x.e] (tokA l r.a).p,x.a,x.b⟩) else X r) else X r
def lvX (lv:Nat) (a:Int) (P:Deep β) (L:PR→(PR→Option β)→Option β) (O:Out β):Option β:=P (lv+1) a fun r=>L r O.e
def postB (h:ExprR→ExprR) (l:List TokR) (r:PR) (P:Deep β) (N R X:PR→Option β):Option β :=
 bif !r.b.is then (bif sgA l r.a [46] then (bif (tokA l (w64 (r.a+1))).kind != 1 then R ⟨r.e,r.a,wrongB (tokA l (w64 (r.a+1)))⟩ else N ⟨nodeE 3 (tokA l (w64 (r.a+1))).s [] [h r.e] (tokA l r.a).p,w64 (r.a+2),r.b⟩)
  else bif !(sgA l r.a [91]) then R r else P 0 (w64 (r.a+1)) fun x=>bif x.b.is then R ⟨r.e,x.a,x.b⟩ else bif !(sgA l x.a [93]) then R ⟨r.e,x.a,wrongB (tokA l x.a)⟩ else N ⟨nodeE 4 [] [] [h r.e,h x.e] (tokA l r.a).p,w64 (x.a+1),r.b⟩)
 else X r
def keyX (l:List TokR) (a:Int) (T:TokR→(ExprR→BadR→Option β)→Option β) (K:ExprR→Option β) (R:PL→Option β):Option β :=
 let t:=tokA l a
 bif (bif t.kind != 1 then t.kind != 3 else false) then R ⟨[],a,wrongB t⟩
 else bif t.kind==3 then T t fun x b=>bif b.is then R ⟨[],a,b⟩ else K x else K (litE 3 0 t.s t.p)
def signX (l:List TokR) (a:Int) (K:Option β) (R:PL→Option β):Option β :=
 bif ((!(sgA l a [61]))==true) then (bif !(sgA l a [58]) then R ⟨[],a,wrongB (tokA l a)⟩ else K) else K
def exB (l:List TokR) (end':Str) (out:List ExprR) (a:Int) (P:Deep β) (T:TokR→(ExprR→BadR→Option β)→Option β) (N X:List ExprR→Int→Option β) (R:PL→Option β) (A:List ExprR→ExprR→(List ExprR→Option β)→Option β):Option β :=
 let V:=fun (out:List ExprR) (a:Int)=>P 0 a fun r=>bif r.b.is then R ⟨[],r.a,r.b⟩ else A out r.e fun o=>bif !(sgA l r.a [44]) then X o r.a else N o (w64 (r.a+1))
 bif !(sgA l a end') then (bif end'==[125] then keyX l a T (fun k=>signX l (w64 (a+1)) (A out k fun o=>V o (w64 (w64 (a+1)+1))) R) R else V out a) else X out a
def forY (op:Int) (l:List TokR) (a:Int) (end':Str) (p:PosR) (P:Deep β) (O:Out β):Option β :=
 let t:=tokA l (w64 (a+1))
 let Fin:=fun (s s2:Str) (L:List ExprR) (a:Int)=>bif !(sgA l a end') then O.g op s s2 L p a (wrongB (tokA l a)) else O.g op s s2 L p (w64 (a+1)) bad0
 let If:=fun (s s2:Str) (L:List ExprR) (a:Int)=>bif wdA l a [105,102] then P 0 (w64 (a+1)) fun c=>bif c.b.is then O.g op s s2 L p c.a c.b else Fin s s2 (L++[c.e]) c.a else Fin s s2 L a
 let One:=fun (s s2:Str) (L:List ExprR) (a:Int) (K:List ExprR→Int→Option β)=>P 0 a fun x=>bif x.b.is then (match L with
  | []=>O.z op s s2 p x.a x.b
  | y::r=>O.g op s s2 (y::r) p x.a x.b) else K (L++[x.e]) x.a
 let Sg:=fun (s s2:Str) (w:Str) (L:List ExprR) (a:Int) (K:List ExprR→Int→Option β)=>bif !(sgA l a w) then O.g op s s2 L p a (wrongB (tokA l a)) else K L (w64 (a+1))
 let In:=fun (s s2:Str) (a:Int)=>bif !(wdA l a [105,110]) then O.z op s s2 p a (wrongB (tokA l a)) else
  bif end'==[125] then One s s2 [] (w64 (a+1)) fun L a=>Sg s s2 [58] L a fun L a=>One s s2 L a fun L a=>Sg s s2 [61,62] L a fun L a=>One s s2 L a fun L a=>If s s2 L a
  else One s s2 [] (w64 (a+1)) fun L a=>Sg s s2 [58] L a fun L a=>One s s2 L a fun L a=>If s s2 L a
 orF (t.kind != 1) (resV t.s) (O.z op [] [] p a (wrongB t)) (
  bif sgA l (w64 (a+2)) [44] then orF ((tokA l (w64 (w64 (a+2)+1))).kind != 1) (resV (tokA l (w64 (w64 (a+2)+1))).s) (O.z op t.s [] p (w64 (a+2)) (wrongB (tokA l (w64 (w64 (a+2)+1)))))
    (In (tokA l (w64 (w64 (a+2)+1))).s t.s (w64 (w64 (a+2)+2)))
   else In t.s [] (w64 (a+2)))
def firstX (l:List TokR) (a:Int) (P:Deep β) (T:TokR→(ExprR→BadR→Option β)→Option β) (E:Str→Int→(PL→Option β)→Option β) (F:Str→Int→PosR→(PR→Option β)→Option β) (O:Out β):Option β :=
 let t:=tokA l a
 let E2:=E [125] (w64 (a+1)) fun x=>O.y 23 [] [] x.l t.p x.a x.b
 bif t.kind==2 then O.v 2 t.n [] t.p (w64 (a+1)) bad0
 else bif t.kind==3 then T t fun e b=>O.e ⟨e,w64 (a+1),b⟩
 else bif t.kind==1 then (bif t.s==[116,114,117,101] then O.v 1 1 [] t.p (w64 (a+1)) bad0 else bif t.s==[102,97,108,115,101] then O.v 1 0 [] t.p (w64 (a+1)) bad0 else bif t.s==[110,117,108,108] then O.v 0 0 [] t.p (w64 (a+1)) bad0
  else bif resV t.s then O.z 0 [] [] p00 a (wrongB t)
  else bif sgA l (w64 (a+1)) [40] then E [41] (w64 (a+2)) fun x=>O.y 5 t.s [] x.l t.p x.a x.b else O.z 2 t.s [] t.p (w64 (a+1)) bad0)
 else bif sgA l a [40] then P 0 (w64 (a+1)) fun r=>bif (!r.b.is)==true then (bif !(sgA l r.a [41]) then O.e ⟨r.e,w64 (r.a+1),wrongB (tokA l r.a)⟩ else O.e ⟨r.e,w64 (r.a+1),r.b⟩) else O.e ⟨r.e,w64 (r.a+1),r.b⟩
 else bif sgA l a [91] then (bif wdA l (w64 (a+1)) [102,111,114] then F [93] (w64 (a+1)) t.p O.e else E [93] (w64 (a+1)) fun x=>O.y 22 [] [] x.l t.p x.a x.b)
 else bif sgA l a [123] then (bif (wdA l (w64 (a+1)) [102,111,114]==true) then (bif ((!(sgA l (w64 (a+2)) [61]))==true) then (bif !(sgA l (w64 (a+2)) [58]) then F [125] (w64 (a+1)) t.p O.e else E2) else E2) else E2)
 else O.z 0 [] [] p00 a (wrongB t)
end
def thn {γ β:Type} (x:Option γ) (k:γ→Option β):Option β:=match x with
 | some r=>k r
 | none=>none
def OM:Out PR:=⟨some,fun k i s p a b=>some ⟨litE k i s p,a,b⟩,fun op s s2 l p a b=>some ⟨nodeE op s s2 l p,a,b⟩,fun op s s2 p a b=>some ⟨nodeE op s s2 [] p,a,b⟩,fun op s s2 l p a b=>some ⟨nodeE op s s2 l p,a,b⟩,fun op s s2 l p a b=>some ⟨nodeE op s s2 l p,a,b⟩⟩
abbrev Texts:=TokR→Option (ExprR×BadR)
abbrev Reads:=Nat→Int→Option PR
def dp {β:Type} (P:Reads):Deep β:=fun k a K=>thn (P k a) K
def tx {β:Type} (T:Texts):TokR→(ExprR→BadR→Option β)→Option β:=fun t K=>thn (T t) fun x=>K x.1 x.2
def lvL (l:List TokR) (lv:Nat) (P:Reads):Nat→PR→Option PR
 | 0,_=>none
 | m+1,r=>lvB id id l lv r (dp P) (lvL l lv P m) some
def postL (l:List TokR) (P:Reads):Nat→PR→Option (Bool×PR)
 | 0,_=>none
 | m+1,r=>postB id l r (dp P) (postL l P m) (fun r=>some (true,r)) (fun r=>some (false,r))
def exL (l:List TokR) (end':Str) (P:Reads) (T:Texts):Nat→List ExprR→Int→Option (Bool×PL)
 | 0,_,_=>none
 | m+1,out,a=>exB l end' out a (dp P) (tx T) (exL l end' P T m) (fun o a=>some (false,⟨o,a,bad0⟩)) (fun x=>some (true,x)) (fun o x K=>K (o++[x]))
def exFin (l:List TokR) (end':Str) (x:Bool×PL):PL:=bif x.1 then ⟨[],x.2.a,x.2.b⟩ else bif !(sgA l x.2.a end') then ⟨[],x.2.a,wrongB (tokA l x.2.a)⟩ else ⟨x.2.l,w64 (x.2.a+1),bad0⟩
def exsM (l:List TokR) (P:Reads) (T:Texts) (m:Nat) (end':Str) (a:Int):Option PL:=(exL l end' P T m [] a).map (exFin l end')
def forM (l:List TokR) (P:Reads) (e:Str) (a:Int) (p:PosR):Option PR:=bif e==[93] then forY 24 l a [93] p (dp P) OM else bif e==[125] then forY 25 l a [125] p (dp P) OM else none
def firstM (l:List TokR) (P:Reads) (T:Texts) (m:Nat) (a:Int):Option PR:=firstX l a (dp P) (tx T) (fun e a K=>thn (exsM l P T m e a) K) (fun e a p K=>thn (forM l P e a p) K) OM
def postM (l:List TokR) (P:Reads) (T:Texts) (m:Nat) (a:Int):Option PR:=thn (firstM l P T m a) fun r=>(postL l P m r).map (·.2)
def condM (l:List TokR) (P:Reads) (a:Int):Option PR:=condX l a (dp P) OM
def rdM (l:List TokR) (T:Texts):Nat→Reads
 | 0,_,_=>none
 | n+1,0,a=>condM l (rdM l T n) a
 | n+1,6,a=>unX l a (dp (rdM l T n)) OM
 | n+1,7,a=>postM l (rdM l T n) T n a
 | n+1,lv+1,a=>bif Nat.ble lv 4 then lvX (lv+1) a (dp (rdM l T n)) (fun r K=>thn (lvL l (lv+1) (rdM l T n) n r) K) OM else none
end Go.Proofs.YtcgbgcconigdbaaGreatDoor
namespace Go.Proofs.YtcgbgcconigdbaaGreatDoor
open Go.Eng
set_option maxRecDepth 100000
theorem outA_f {l:List TokR} {a:Int} (h:outA l a=false):0≤a∧a < (l.length:Int):=by
 unfold outA at h
 by_cases h1:a < 0
 ·rw [decide_eq_true h1] at h;simp at h
 ·rw [decide_eq_false h1] at h
  simp only [cond_false,decide_eq_false_iff_not] at h
  omega
def prP {γ:Type} [Inhabited γ] (x:Option γ):γ:=x.getD default
mutual
def esz:ExprR→Nat
 | ⟨_,_,_,_,l,_⟩=>1+eszs l
def eszs:List ExprR→Nat
 | []=>0
 | v::r=>esz v+eszs r
end
theorem eszs_mem {l:List ExprR} {x:ExprR} (h:x∈l):esz x≤eszs l:=by
 induction l with
 | nil=>simp at h
 | cons y r ih =>
  simp only [eszs]
  rcases List.mem_cons.1 h with rfl | h
  ·omega
  ·have:=ih h;omega
theorem esz_eq (e:ExprR):esz e=1+eszs e.l:=by
 obtain ⟨op,s,s2,v,l,p⟩:=e
 simp only [esz]
theorem getD_mem {α:Type} {l:List α} {i:Nat} {d:α} (h:i < l.length):l.getD i d∈l:=by
 rw [List.getD_eq_getElem?_getD,List.getElem?_eq_getElem h]
 exact List.getElem_mem h
def mx (y x:Int):Int:=bif (bif true then decide (y > x) else decide (y < x)) then y else x
def accD (D:ExprR→Int) (l:List ExprR):Nat→Int
 | 0=>0
 | i+1=>mx (D (l.getD i default)) (accD D l i)
def dpth:Nat→ExprR→Int
 | 0,_=>0
 | n+1,e=>IntKind.i64.wrap (accD (dpth n) e.l e.l.length+1)
def deepE (e:ExprR):Int:=dpth (esz e+1) e
def mvP (b p:PosR):PosR:=⟨w64 (b.at'+p.at'),b.line,w64 (w64 (b.col+p.col) - 1)⟩
mutual
def movE (b:PosR):ExprR→ExprR
 | ⟨op,s,s2,v,l,p⟩=>⟨op,s,s2,v,movL b l,mvP b p⟩
def movL (b:PosR):List ExprR→List ExprR
 | []=>[]
 | e::r=>movE b e::movL b r
end
structure WR where
 e:ExprR
 c:Int
 p:PosR
 deriving Inhabited
abbrev Wholes:=Str→Option WR
def pt (t:TokR) (i:Nat):PartR:=t.parts.getD i default
def txL (W:Wholes) (tp:PosR):List PartR→List ExprR→Option (Bool×List ExprR×BadR)
 | [],out=>some (false,out,bad0)
 | p::r,out=>bif !p.expr then txL W tp r (out++[litE 3 0 p.s tp]) else thn (W p.s) fun x=>bif x.c != 0 then some (true,out,⟨true,x.c,mvP p.p x.p⟩) else txL W tp r (out++[movE p.p x.e])
def textM (W:Wholes) (t:TokR):Option (ExprR×BadR):=bif Nat.ble t.parts.length 100000 then
  bif (t.parts.length:Int)==0 then some (litE 3 0 [] t.p,bad0) else bif (bif (t.parts.length:Int)==1 then !(pt t 0).expr else false) then some (litE 3 0 (pt t 0).s t.p,bad0)
  else thn (txL W t.p t.parts []) fun x=>some (nodeE 26 [] [] x.2.1 t.p,x.2.2)
 else none
theorem txL_ok {W:Wholes} {tp:PosR}:∀(l:List PartR) (out:List ExprR) (x:Bool×List ExprR×BadR),txL W tp l out=some x→x.1=false→x.2.2=bad0
 | [],out,x,h,_=>by obtain rfl:=Option.some.inj h;rfl
 | p::r,out,x,h,hx=>by
  simp only [txL] at h
  cases c1:!p.expr with
  | true=>rw [c1] at h;exact txL_ok r _ x h hx
  | false =>
   rw [c1,cond_false] at h
   cases hw:W p.s with
   | none=>rw [hw] at h;cases h
   | some y =>
    rw [hw] at h
    simp only [thn] at h
    cases c2:y.c != 0 with
    | true=>rw [c2] at h;obtain rfl:=Option.some.inj h;cases hx
    | false=>rw [c2] at h;exact txL_ok r _ x h hx
def badW (l:List TokR) (r:PR):BadR:=bif !r.b.is then (bif (tokA l r.a).kind != 0 then wrongB (tokA l r.a) else r.b) else r.b
def wholeM (P:List TokR→Reads) (s:Str):Option WR:=bif (allM s).bad != 0 then some ⟨e00,(allM s).bad,(allM s).bp⟩ else
 thn (P (allM s).l 0 0) fun r=>bif (badW (allM s).l r).is then some ⟨e00,(badW (allM s).l r).c,(badW (allM s).l r).p⟩ else some ⟨r.e,0,p00⟩
def tok1 (s:Str):TokR:=(allM s).l.getD 0 default
def parseM (W:Wholes) (s:Str):Option WR:=thn (W s) fun x=>bif x.c==0 then (bif decide (deepE x.e > 24) then (bif Nat.blt 0 (allM s).l.length then some ⟨e00,12,(tok1 s).p⟩ else none) else some x) else some ⟨e00,x.c,x.p⟩
def fuel:Nat:=1000000
def T0:Texts:=fun _=>none
def W1:Wholes:=wholeM fun l=>rdM l T0 fuel
def T1:Texts:=textM W1
def W2:Wholes:=wholeM fun l=>rdM l T1 fuel
end Go.Proofs.YtcgbgcconigdbaaGreatDoor
