/-
  THE MACHINE THAT EVALUATES, as data; the expression of a sum in a sum in a sum.
-/
import Derived.Test.YtlnkjdedeegajaaGreatDoorEvC
import Derived.Test.YtlnkjdedeegajaaGreatDoorParseD
namespace Go.Proofs.YtlnkjdedeegajaaGreatDoor
open Go.Eng
set_option maxRecDepth 100000
namespace Ev
def pAt (i:Int) (j:Int):PosR:=⟨i,1,j⟩
def nameE (s:Str) (p:PosR):ExprR:=nodeE 2 s [] [] p
def mulE (x y:ExprR) (p:PosR):ExprR:=nodeE 8 [] [] [x,y] p
def forE (x:Str) (q p:PosR) (B:ExprR):ExprR:=nodeE 24 x [] [nameE [108] q,B] p
def sumE (F:ExprR) (p:PosR):ExprR:=nodeE 5 sSum [] [F] p
def eB0:ExprR:=mulE (mulE (nameE [97] (pAt 54 55)) (nameE [98] (pAt 58 59)) (pAt 56 57)) (nameE [99] (pAt 62 63)) (pAt 60 61)
def eF1:ExprR:=forE [99] (pAt 50 51) (pAt 40 41) eB0
def eB1:ExprR:=sumE eF1 (pAt 36 37)
def eF2:ExprR:=forE [98] (pAt 32 33) (pAt 22 23) eB1
def eB2:ExprR:=sumE eF2 (pAt 18 19)
def eF3:ExprR:=forE [97] (pAt 14 15) (pAt 4 5) eB2
def eB3:ExprR:=sumE eF3 (pAt 0 1)
def sEF:Str:=[115,117,109,40,91,102,111,114,32,97,32,105,110,32,108,32,58,32,115,117,109,40,91,102,111,114,32,98,32,105,110,32,108,32,58,32,115,117,109,40,91,102,111,114,32,99,32,105,110,32,108,32,58,32,97,32,42,32,98,32,42,32,99,93,41,93,41,93,41]
structure MR where
  f:Int
  c:Int
  p:PosR
  w:Str
def cMs (nm:D Pl) (m:MR):List (D Pl):=[nm,dI m.f,dI m.c,dI m.p.at',dI m.p.line,dI m.p.col,.str m.w]
def osN (N:List BindR) (m:MR):List (D Pl):=[.obB 50000 (cMs (.arr 100000) m),.obA 100000 (pBinds N)]
def osP (N:List BindR) (m:MR):List (D Pl):=[.obB 50000 (cMs (.pl (pBinds N) .any) m)]
def okM (f:Int):MR:=⟨f,0,p00,[]⟩
def bdL (L:List Val):BindR:=⟨[108],listV L⟩
def bd1 (c:UInt8):BindR:=⟨[c],intV 1⟩
def N0 (L:List Val):List BindR:=[bdL L]
def N1 (L:List Val):List BindR:=[bdL L,bd1 97]
def N2 (L:List Val):List BindR:=[bdL L,bd1 97,bd1 98]
def N3 (L:List Val):List BindR:=[bdL L,bd1 97,bd1 98,bd1 99]
def tV:Eng.Told Pl:=tell 46 (p1 fun v=>(true,.agg (cV v))) (tCk tell0)
theorem tV_ok:TOk tV:=tell_ok (p1_ok fun v _=>copy_sound v) (tCk_ok (tell0_ok _))
def Bz (z:Bool) (b:ExprR):ExprR:=⟨bif z then 8 else 5,b.s,b.s2,b.v,b.l,b.p⟩
def osZ (z:Bool) (N:List BindR) (m:MR):List (D Pl):=bif z then osN N m else osP N m
def exE:List (D Pl)→Option ExprR
  | [.int .i64 op,.str s,.str s2,.int .i64 k,.int .i64 i,.str vs,.pl ⟨.vals,vl⟩ .any,.pl ⟨.strs,ks⟩ .any,.int .i64 tk,.int .i64 tof,.bool sec,.pl ⟨.exprs,l⟩ .any,.int .i64 a,.int .i64 b,.int .i64 c]=>some ⟨op,s,s2,⟨k,i,vs,vl,ks,tk,tof,sec⟩,l,⟨a,b,c⟩⟩
  | _=>none
theorem exE_eq {cs:List (D Pl)} {e:ExprR} (h:exE cs=some e):cs=cExpr e:=by
  unfold exE at h
  split at h
  · simp only [Option.some.injEq] at h;subst h;rfl
  · simp at h
noncomputable def pEv (z:Bool) (K:ExprR→List BindR→Int→Prop) (V:Int→Val) (M:Int→MR):List (D Pl)→List (D Pl)→Option (Bool×D Pl×List (D Pl))
  | [.obB 50000 [.arr 100000,.int .i64 f,.int .i64 (.ofNat 0),.int .i64 (.ofNat 0),.int .i64 (.ofNat 0),.int .i64 (.ofNat 0),.str []],.obA 100000 ⟨.binds,N⟩],[.ptr 50000 0,.agg cs]=>match exE cs with
    | some e=>bif e.op==2 then none else some (Go.Proofs.YtlnkjdedeegajaaGreatDoor.cB (K e N f),.agg (cV (V f)),osZ z N (M f))
    | none=>none
  | _,_=>none
def Nj:Nat→List Val→List BindR
  | 0,L=>N0 L
  | 1,L=>N1 L
  | _,L=>N2 L
def xj:Nat→Str
  | 0=>[97]
  | 1=>[98]
  | _=>[99]
def cTo:List (D Pl):=[.nilS,.nilS,.mp 52,.bool false,.bool false]
def sLo (N:List BindR) (F:ExprR) (L:List Val) (m:MR) (acc:List Val) (i:Int):St Pl:=mkS 186 [(0,.ptr 50000 0),(3,.ptr 3 0),(4,.ptr 4 0),(5,.ptr 5 0),(6,dI 4),(7,dI 2),(8,.ptr 54 0),(9,.arr 131),(10,.pl (pBinds N) .any),(60,.pl (pVals L) .any),(61,dI L.length),(62,dI i)]
  [(131,.arr false (pVals acc)),(54,.box false cTo),(52,.map false ⟨.map .str .unit,[]⟩),(5,.box false (cV (listV L))),(50000,.box false (cMs .bad m)),(4,.box false cZ),(3,.box false (cExpr F))]
def FLo:Fix Pl:={ calm:=[60000000],keep:=[0,3,4,5,6,7,8,9,10,60,61,62],lose:=[60000000,93,12,13],gone:=[(50000,0)],nils:=[(.slot 9,131,pVals [])],can:=[(54,2,52)],ord:=[131,54,52,5,50000,4,3] }
noncomputable def tLo (z:Bool) (K:ExprR→List BindR→Int→Prop) (V:Int→Val) (M:Int→MR):Eng.Told Pl:=tellM 11 (pEv z K V M) tV
def trB (v:Val):Val:=⟨v.kind,v.i,v.s,v.l,v.keys,v.tk,v.tof,bif v.sec then true else false⟩
theorem bLo (K:ExprR→List BindR→Int→Prop) (V:Int→Val) (M:Int→MR) (L acc:List Val) (b:ExprR) (q p:PosR) (f:Int) (i:Nat):∀(z:Bool) (j:Nat),j < 3 →
    evZ (tLo z K V M) noTL noL 20 (loopAt 44 0) FLo (sLo (Nj j L) (forE (xj j) q p (Bz z b)) L (okM f) acc i) =
      lt_ i L.length (ix_ i L.length (ck_ (Go.Proofs.YtlnkjdedeegajaaGreatDoor.cB (K (etaE (Bz z b)) (Nj j L++[⟨xj j,trB (L.getD i default)⟩]) f)) (ck_ (Nat.ble ((acc.length+1) * 104) big) (bif !((M f).c==0) then some (.exit 1,sLo (Nj j L) (forE (xj j) q p (Bz z b)) L (M f) (acc++[etaV (V f)]) i) else some (.normal,sLo (Nj j L) (forE (xj j) q p (Bz z b)) L (M f) (acc++[etaV (V f)]) (IntKind.i64.wrap ((i:Int)+1))))))) (some (.exit 1,sLo (Nj j L) (forE (xj j) q p (Bz z b)) L (okM f) acc i))
  | true,0,_=>by kernel_rfl
  | true,1,_=>by kernel_rfl
  | true,2,_=>by kernel_rfl
  | false,0,_=>by kernel_rfl
  | false,1,_=>by kernel_rfl
  | false,2,_=>by kernel_rfl
  | _,_+3,h=>by omega
theorem idsLo:(loopsAt 44).length=1∧firstId (loopAt 44 0)=15∧loopsOf (loopAt 44 0)=[]:=⟨by kernel_rfl,by kernel_rfl,by kernel_rfl⟩
end Ev
end Go.Proofs.YtlnkjdedeegajaaGreatDoor
