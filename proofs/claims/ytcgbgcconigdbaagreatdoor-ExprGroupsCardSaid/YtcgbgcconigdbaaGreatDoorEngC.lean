/-
 THE ENGINE, PART B: WHAT IT MEANS THAT A VALUE READS AS DATA, and how that stays.
-/
import Derived.WalkKit
import Derived.Maps.Keyed
import Derived.Below
namespace Go.Eng
inductive SK where
 | any
 | full
 | nil (b:Bool)
 | spare (l:List UInt8)
def isSp:SK→Bool
 | .spare (_::_)=>true
 | _=>false
inductive D (α:Type) where
 | bool (b:Bool)
 | int (k:IntKind) (n:Int)
 | str (l:List UInt8)
 | nilP
 | nilS
 | nilF
 | nilI
 | nilM
 | lit (v:Value)
 | agg (cs:List (D α))
 | tup (ds:List (D α))
 | pl (p:α) (k:SK)
 | arr (o:Nat)
 | ptr (o off:Nat)
 | epr (o i off:Nat)
 | mp (o:Nat)
 | mr (p:α)
 | ref (cs:List (D α))
 | fn (f:FuncId) (caps:List (D α))
 | ifc (t:TypeId) (d:D α)
 | ifa
 | mref (b:Bool) (cs:List (D α))
 | num
 | gd (ks:List (Nat×Bool)) (t:Bool) (d:D α)
 | ow (k:List Nat) (d:D α)
 | bad
 | obB (n:Nat) (cs:List (D α))
 | obA (n:Nat) (p:α)
 | obM (n:Nat) (p:α)
 | env (os:List (D α)) (d:D α)
inductive KC where
 | b
 | i (k:IntKind)
 | s
 deriving DecidableEq
def shp1 {α:Type}:D α→Option KC
 | .bool _=>some .b
 | .int k _=>some (.i k)
 | .str _=>some .s
 | _=>none
def shpL {α:Type}:List (D α)→Option (List KC)
 | []=>some []
 | d::r=>match shp1 d,shpL r with
  | some k,some l=>some (k::l)
  | _,_=>none
def shp {α:Type}:D α→Option (Bool×List KC)
 | .agg cs=>match shpL cs with
  | some l=>some (true,l)
  | none=>none
 | d=>match shp1 d with
  | some k=>some (false,[k])
  | none=>none
structure Pay (α:Type) where
 dr:Bool:=false
 al:α→Bool:=fun _=>false
 esz:α→Nat
 bys:α→Nat
 len:α→Nat
 elem:α→Nat→List (D α)
 emp:TypeId→Option α
 snoc:α→List (D α)→Option α
 cat:α→α→Option α
 cut:α→Nat→Nat→α
 set:α→Nat→List (D α)→Option α
 rep:TypeId→Nat→Option α
 bytes:α→Option (List UInt8)
 ofBytes:TypeId→List UInt8→Option α
 memp:TypeId→Option α
 mkey:α→Nat→D α
 mval:α→Nat→D α
 mzero:α→D α
 mget:α→D α→Option (D α×Bool)
 mput:α→D α→D α→Option α
inductive Ob (α:Type) where
 | box (fz:Bool) (cs:List (D α))
 | arr (fz:Bool) (p:α)
 | map (fz:Bool) (p:α)
abbrev Obs (α:Type):=List (Nat×Ob α)
def look {α:Type}:Obs α→Nat→Option (Ob α)
 | [],_=>none
 | (n,x)::r,o=>bif Nat.beq n o then some x else look r o
def drop {α:Type}:Obs α→Nat→Obs α
 | [],_=>[]
 | (n,x)::r,o=>bif Nat.beq n o then drop r o else (n,x)::drop r o
def upd {α:Type}:Obs α→Nat→Ob α→Obs α
 | [],_,_=>[]
 | (n,x)::r,o,y=>bif Nat.beq n o then (n,y)::r else (n,x)::upd r o y
structure Ctx (α:Type) where
 P:Program
 C:Pay α
 R:FuncId→List (D α)→Option (Bool×D α)
 glob:Nat→Option (List (D α))
 plainT:TypeId→Bool
 N:Nat
 own:Bool:=false
 noM:Bool:=true
 isM:FuncId→Bool:=fun _=>false
def lo:IntKind→Int
 | .i8=>-128 | .i16=>-32768 | .i32=>-2147483648 | .i64=>-9223372036854775808
 | _=>0
def hi:IntKind→Int
 | .i8=>127 | .i16=>32767 | .i32=>2147483647 | .i64=>9223372036854775807
 | .u8=>255 | .u16=>65535 | .u32=>4294967295 | .u64=>18446744073709551615
def inR (k:IntKind) (n:Int):Bool:=decide (lo k≤n)&&decide (n≤hi k)
def big:Nat:=140737488355328
section
variable {α:Type}
def cellsD:D α→List (D α)
 | .agg cs=>cs
 | d=>[d]
def isOne:D α→Bool
 | .agg _ | .tup _ | .gd _ _ _ | .bad | .lit _ | .ow _ _=>false
 | _=>true
def getT:List (D α)→Nat→D α
 | [],_=>.bad
 | d::_,0=>d
 | _::r,n+1=>getT r n
def setT:List (D α)→Nat→D α→List (D α)
 | [],_,_=>[]
 | _::r,0,x=>x::r
 | d::r,n+1,x=>d::setT r n x
def putT (tm:List (D α)) (dst:Option Nat) (x:D α):List (D α) :=
 match dst with
 | some d=>setT tm d x
 | none=>tm
def memK:List (Nat×Bool)→Nat×Bool→Bool
 | [],_=>false
 | (a,b)::r,k=>(Nat.beq a k.1&&(b==k.2))||memK r k
def strip (ks:List (Nat×Bool)):D α→D α
 | .gd ks' _ d=>bif ks'.all (memK ks) then d else .bad
 | d=>d
mutual
def kill (ns:Nat→Bool):D α→D α
 | .arr o=>bif ns o then .bad else .arr o
 | .ptr o off=>bif ns o then .bad else .ptr o off
 | .epr o i off=>bif ns o then .bad else .epr o i off
 | .mp o=>bif ns o then .bad else .mp o
 | .agg cs=>.agg (killL ns cs)
 | .tup cs=>.tup (killL ns cs)
 | .ref cs=>.ref (killL ns cs)
 | .fn f cs=>.fn f (killL ns cs)
 | .ifc t d=>.ifc t (kill ns d)
 | .gd ks t d=>.gd ks t (kill ns d)
 | .ow k d=>.ow k (kill ns d)
 | d=>d
def killL (ns:Nat→Bool):List (D α)→List (D α)
 | []=>[]
 | d::r=>kill ns d::killL ns r
end
def killOb (ns:Nat→Bool):Ob α→Ob α
 | .box fz cs=>.box fz (killL ns cs)
 | x=>x
def killH (ns:Nat→Bool):Obs α→Obs α
 | []=>[]
 | (n,x)::r=>(n,killOb ns x)::killH ns r
mutual
def closed:D α→Bool
 | .arr _ | .ptr _ _ | .epr _ _ _ | .mp _ | .gd _ _ _=>false
 | .agg cs | .tup cs | .ref cs | .fn _ cs=>closedL cs
 | .ifc _ d=>closed d
 | .ow _ d=>closed d
 | _=>true
def closedL:List (D α)→Bool
 | []=>true
 | d::r=>closed d&&closedL r
end
mutual
def flat:D α→Bool
 | .bool _ | .int _ _ | .str _ | .nilP | .nilS | .nilF | .nilI | .nilM | .lit _=>true
 | .agg cs | .tup cs=>flatL cs
 | _=>false
def flatL:List (D α)→Bool
 | []=>true
 | d::r=>flat d&&flatL r
end
def lend (C:Pay α) (hs:Obs α):Nat→D α→Option (D α×List Nat)
 | 0,_=>none
 | _+1,.arr o=>match look hs o with
  | some (.arr _ p)=>some (.pl p .any,[o])
  | _=>none
 | n+1,.ptr o off=>match look hs o with
  | some (.box _ cs)=>match lendL C hs n (cs.drop off) with
   | some (l,ns)=>some (.ref l,o::ns)
   | none=>none
  | _=>none
 | _+1,.epr o i off=>match look hs o with
  | some (.arr _ p)=>some (.ref ((C.elem p i).drop off),[o])
  | _=>none
 | _+1,.mp o=>match look hs o with
  | some (.map _ p)=>some (.mr p,[o])
  | _=>none
 | n+1,.agg cs=>match lendL C hs n cs with
  | some (l,ns)=>some (.agg l,ns)
  | none=>none
 | n+1,.tup cs=>match lendL C hs n cs with
  | some (l,ns)=>some (.tup l,ns)
  | none=>none
 | n+1,.ref cs=>match lendL C hs n cs with
  | some (l,ns)=>some (.ref l,ns)
  | none=>none
 | n+1,.fn f cs=>match lendL C hs n cs with
  | some (l,ns)=>some (.fn f l,ns)
  | none=>none
 | n+1,.ifc t d=>match lend C hs n d with
  | some (x,ns)=>some (.ifc t x,ns)
  | none=>none
 | _+1,.gd _ _ _=>none
 | _+1,.ow _ _=>none
 | _+1,d=>some (d,[])
where
 lendL (C:Pay α) (hs:Obs α):Nat→List (D α)→Option (List (D α)×List Nat)
  | _,[]=>some ([],[])
  | 0,_::_=>none
  | n+1,d::r=>match lend C hs n d,lendL C hs n r with
   | some (x,ns),some (l,ms)=>some (x::l,ns++ms)
   | _,_=>none
def nsOf (o dst:Nat):Nat→Bool:=fun k=>Nat.beq k o||Nat.beq k dst
def rebind (o dst:Nat) (ob:Ob α) (hs:Obs α):Obs α:=(dst,ob)::killH (nsOf o dst) (drop (drop hs o) dst)
def freezeOb:Ob α→Ob α
 | .box _ cs=>.box true cs
 | .arr _ p=>.arr true p
 | .map _ p=>.map true p
def freeze:Obs α→List Nat→Obs α
 | hs,[]=>hs
 | hs,n::r=>match look hs n with
  | some x=>freeze (upd hs n (freezeOb x)) r
  | none=>freeze hs r
def ofV1:Value→D α
 | .bool b=>.bool b
 | .int k n=>bif inR k n then .int k n else .bad
 | .string s=>bif Nat.ble s.data.toList.length big then .str s.data.toList else .bad
 | .pointer none=>.nilP
 | .slice none 0 0=>.nilS
 | .nilFunc=>.nilF
 | .nilIface=>.nilI
 | .map none=>.nilM
 | _=>.bad
def ofV:Value→D α
 | .agg cs=>bif cs.toList.all Value.oneCell' then .agg (cs.toList.map ofV1) else .bad
 | v=>ofV1 v
structure Res (α:Type) where
 ok:Bool
 d:D α
 ch:Option (List (D α)×Obs α)
def Res.v (d:D α):Res α:=⟨true,d,none⟩
def Res.no:Res α:=⟨false,.bad,none⟩
def Res.if (b:Bool) (d:D α):Res α:=⟨b,d,none⟩
def Res.o:Option (D α)→Res α
 | some d=>.v d
 | none=>.no
def szO (P:Program) (t:TypeId):Option Nat:=(P.info? t).map (·.size)
def bysO (P:Program) (t:TypeId):Option Nat:=(P.info? t).map (·.bytes)
def shapeT (P:Program) (t:TypeId):Nat :=
 match P.underlying t with
 | some (.struct _) | some (.array _ _)=>2
 | some _=>1
 | none=>0
def partD (P:Program) (t:TypeId) (cs:List (D α)) (off:Nat):Option (D α) :=
 match shapeT P t,szO P t with
 | 2,some n=>some (.agg ((cs.drop off).take n))
 | 1,_=>cs[off]?
 | _,_=>none
def loadD (P:Program) (t:TypeId) (cs:List (D α)) (off:Nat):Option (D α) :=
 match shapeT P t,szO P t with
 | 2,some n=>bif Nat.ble (off+n) cs.length then some (.agg ((cs.drop off).take n)) else none
 | 1,_=>cs[off]?
 | _,_=>none
def overL:List (D α)→Nat→List (D α)→List (D α)
 | cs,_,[]=>cs
 | cs,i,x::r=>overL (setT cs i x) (i+1) r
def goodCells (cs:List (D α)):Bool:=cs.all isOne
def storeCellsD (P:Program) (t:TypeId) (d:D α):Option (List (D α)) :=
 match shapeT P t,szO P t,d with
 | 2,some n,.agg cs=>bif Nat.beq cs.length n then some cs else none
 | 1,some 1,_=>bif isOne d then some [d] else none
 | _,_,_=>none
def zeroD (P:Program) (t:TypeId):Option (D α) :=
 match (P.info? t).bind (·.zero) with
 | some v=>some (ofV v)
 | none=>none
def bitsE (op:BinOp) (k:IntKind) (x y:Int):Int :=
 let a:=BitVec.ofInt k.bits x
 let b:=BitVec.ofInt k.bits y
 match op with
 | .and=>k.wrap (a &&& b).toNat
 | .or=>k.wrap (a ||| b).toNat
 | .xor=>k.wrap (a ^^^ b).toNat
 | _=>k.wrap (a &&& ~~~b).toNat
def intOp (op:BinOp) (k:IntKind) (a b:Int):Res α :=
 match op with
 | .add=>.v (.int k (k.wrap (a+b)))
 | .sub=>.v (.int k (k.wrap (a - b)))
 | .mul=>.v (.int k (k.wrap (a * b)))
 | .quo=>.if (!(b==0)) (.int k (k.wrap (a.tdiv b)))
 | .rem=>.if (!(b==0)) (.int k (a.tmod b))
 | .and | .or | .xor | .andNot=>.v (.int k (bitsE op k a b))
 | .eql=>.v (.bool (a==b))
 | .neq=>.v (.bool (a != b))
 | .lss=>.v (.bool (decide (a < b)))
 | .leq=>.v (.bool (decide (a≤b)))
 | .gtr=>.v (.bool (decide (a > b)))
 | .geq=>.v (.bool (decide (a ≥ b)))
 | _=>.no
def shiftOp (op:BinOp) (k:IntKind) (a y:Int):Res α :=
 match op with
 | .shl=>.if (decide (0≤y)) (.int k (k.wrap (a * 2 ^ (min y.toNat k.bits))))
 | .shr=>.if (decide (0≤y)) (.int k (a.fdiv (2 ^ (min y.toNat k.bits))))
 | _=>.no
def strOp (op:BinOp) (a b:List UInt8):Res α :=
 match op with
 | .add=>.if (Nat.ble (a.length+b.length) big) (.str (a++b))
 | .eql=>.v (.bool (a==b))
 | .neq=>.v (.bool (!(a==b)))
 | .lss=>.v (.bool (Op.bytesLess a b))
 | .leq=>.v (.bool (Op.bytesLess a b||a==b))
 | .gtr=>.v (.bool (!(Op.bytesLess a b||a==b)))
 | .geq=>.v (.bool (!(Op.bytesLess a b)))
 | _=>.no
def eqD (P:Program) (pt:TypeId→Bool):Nat→TypeId→D α→D α→Option Bool
 | 0,_,_,_=>none
 | n+1,t,x,y =>
  match P.underlying t,x,y with
  | some .bool,.bool a,.bool b=>some (a==b)
  | some (.int _),.int k a,.int k' b=>bif k==k' then some (a==b) else none
  | some .string,.str a,.str b=>some (a==b)
  | some (.struct fs),.agg xs,.agg ys =>
   bif pt t then
    fs.toList.foldr (fun f acc=>match acc,partD P f.type xs f.offset,partD P f.type ys f.offset with
     | some r,some u,some v=>bif f.name=="_" then some r else match eqD P pt n f.type u v with
      | some e=>some (e&&r)
      | none=>none
     | _,_,_=>none) (some true)
   else none
  | _,_,_=>none
def nilCmp:D α→D α→Option (Nat×Bool)
 | .nilP,.nilP=>some (1,true)
 | .nilS,.nilS=>some (2,true)
 | .nilF,.nilF=>some (3,true)
 | .nilM,.nilM=>some (4,true)
 | .nilP,.ref _ | .ref _,.nilP | .nilP,.ptr _ _ | .ptr _ _,.nilP | .nilP,.epr _ _ _ | .epr _ _ _,.nilP=>some (1,false)
 | .nilF,.fn _ _ | .fn _ _,.nilF=>some (3,false)
 | .nilS,.pl _ (.nil b) | .pl _ (.nil b),.nilS=>some (2,b)
 | .nilI,.ifc _ _ | .ifc _ _,.nilI | .nilI,.ifa | .ifa,.nilI=>some (5,false)
 | .nilP,.mref b _ | .mref b _,.nilP=>some (1,!b)
 | _,_=>none
def keyS (P:Program):Nat→TypeId→List KC→Bool
 | 0,_,_=>false
 | d+1,t,cs=>match P.underlying t,cs with
  | some .bool,[.b]=>true
  | some (.int q),[.i q']=>q==q'
  | some .string,[.s]=>true
  | some (.struct fs),cs=>Nat.beq cs.length (P.cellsOf t)&&fs.all (·.name != "_")&&fs.toList.all fun f=>keyS P d f.type ((cs.drop f.offset).take (P.cellsOf f.type))
  | _,_=>false
def keyOkD (P:Program) (kt:TypeId) (s:Bool×List KC):Bool :=
 match P.underlying kt,s with
 | some .bool,(false,[.b])=>true
 | some (.int q),(false,[.i q'])=>q==q'
 | some .string,(false,[.s])=>true
 | some (.struct _),(true,l)=>P.keyType kt&&P.keyTypeAt 9 kt&&P.tiled 9 kt&&Nat.beq l.length (P.cellsOf kt)&&keyS P (P.types.size+1) kt l
 | _,_=>false
def le1 (C:Pay α):D α→D α→Bool
 | .bool a,.bool b=>a==b
 | .int k a,.int k' b=>(k==k')&&(a==b)
 | .str a,.str b=>a==b
 | .nilP,.nilP | .nilS,.nilS | .nilF,.nilF | .nilI,.nilI | .nilM,.nilM=>true
 | .nilS,.pl p .any=>Nat.beq (C.len p) 0
 | _,_=>false
def leL (C:Pay α):List (D α)→List (D α)→Bool
 | [],[]=>true
 | d::r,e::s=>le1 C d e&&leL C r s
 | _,_=>false
def leD (C:Pay α):D α→D α→Bool
 | .agg cs,.agg ds=>leL C cs ds
 | d,e=>le1 C d e
def tyCode (P:Program) (t:TypeId):Nat :=
 match P.underlying t with
 | some (.pointer _)=>1
 | some (.slice _)=>2
 | some (.func _ _ _)=>3
 | some (.map _ _)=>4
 | some (.interface _)=>5
 | some .bool=>6
 | _=>0
def binD (X:Ctx α) (op:BinOp) (t:TypeId) (x y:D α):Res α :=
 match op,x,y with
 | .shl,.int k a,.int _ b | .shr,.int k a,.int _ b=>shiftOp op k a b
 | op,.int k a,.int k' b=>bif k==k' then intOp op k a b else .no
 | op,.str a,.str b=>strOp op a b
 | .eql,.bool a,.bool b=>bif Nat.beq (tyCode X.P t) 6 then .v (.bool (a==b)) else .no
 | .neq,.bool a,.bool b=>bif Nat.beq (tyCode X.P t) 6 then .v (.bool (!(a==b))) else .no
 | .eql,.agg xs,.agg ys=>bif X.plainT t then (match eqD X.P X.plainT 9 t (.agg xs) (.agg ys) with
  | some b=>.v (.bool b)
  | none=>.no) else .no
 | .neq,.agg xs,.agg ys=>bif X.plainT t then (match eqD X.P X.plainT 9 t (.agg xs) (.agg ys) with
  | some b=>.v (.bool (!b))
  | none=>.no) else .no
 | .eql,x,y=>match nilCmp x y with
  | some (c,b)=>bif Nat.beq c (tyCode X.P t) then .v (.bool b) else .no
  | none=>.no
 | .neq,x,y=>match nilCmp x y with
  | some (c,b)=>bif Nat.beq c (tyCode X.P t) then .v (.bool (!b)) else .no
  | none=>.no
 | _,_,_=>.no
def isCo:Operand→Bool
 | .const _=>true
 | _=>false
def binN (X:Ctx α) (op:BinOp) (t:TypeId) (xo yo:Operand) (x y:D α):Res α :=
 match op,x,y with
 | .eql,.nilI,.nilI=>bif (isCo xo||isCo yo)&&Nat.beq (tyCode X.P t) 5 then .v (.bool true) else .no
 | .neq,.nilI,.nilI=>bif (isCo xo||isCo yo)&&Nat.beq (tyCode X.P t) 5 then .v (.bool false) else .no
 | op,x,y=>binD X op t x y
def unD (op:UnOp) (x:D α):Res α :=
 match op,x with
 | .not,.bool b=>.v (.bool (!b))
 | .neg,.int k n=>.v (.int k (k.wrap (0 - n)))
 | .xor,.int k n=>.v (.int k (bitsE .xor k (if k.signed then -1 else k.max) n))
 | _,_=>.no
def convD (X:Ctx α) (hs:Obs α) (src dst:TypeId) (x:D α):Res α :=
 match X.P.underlying src,X.P.underlying dst,x with
 | some _,some (.int k),.int _ n=>.v (.int k (k.wrap n))
 | some _,some .string,.str l=>.v (.str l)
 | some .string,some (.slice e),.str l=>match X.P.underlying e,X.C.ofBytes dst l,szO X.P e with
  | some (.int .u8),some p,some 1=>.v (.pl p .any)
  | _,_,_=>.no
 | some (.slice e),some .string,x=>match X.P.underlying e,szO X.P e,x with
  | some (.int .u8),some 1,.nilS=>.v (.str [])
  | some (.int .u8),some 1,.pl p _=>match X.C.bytes p with
   | some l=>.v (.str l)
   | none=>.no
  | some (.int .u8),some 1,.arr o=>match look hs o with
   | some (.arr _ p)=>match X.C.bytes p with
    | some l=>.v (.str l)
    | none=>.no
   | _=>.no
  | _,_,_=>.no
 | _,_,_=>.no
def fieldOff (P:Program) (t:TypeId) (f:Nat):Option (Nat×TypeId) :=
 match P.underlying t with
 | some (.struct fs)=>match fs.toList[f]? with
  | some fd=>some (fd.offset,fd.type)
  | none=>none
 | _=>none
def nzT (P:Program) (t:TypeId):Bool:=match szO P t with
 | some (_+1)=>true
 | _=>false
def fieldAddrD (P:Program) (t:TypeId) (x:D α) (f:Nat):Res α :=
 match fieldOff P t f with
 | some (off,ft)=>bif nzT P ft then (match x with
  | .ptr o k=>.v (.ptr o (k+off))
  | .epr o i k=>.v (.epr o i (k+off))
  | .ref cs=>.v (.ref (cs.drop off))
  | _=>.no) else .no
 | none=>.no
def fieldD (P:Program) (t:TypeId) (x:D α) (f:Nat):Res α :=
 match fieldOff P t f,x with
 | some (off,ft),.agg cs=>.o (partD P ft cs off)
 | _,_=>.no
def inB (i:Int) (n:Nat):Bool:=decide (0≤i)&&decide (i < (n:Int))
def indexAddrD (X:Ctx α) (hs:Obs α) (t:TypeId) (x ix:D α):Res α :=
 match X.P.underlying t,x,ix with
 | some (.slice e),.pl p _,.int _ i=>match szO X.P e with
  | some n=>bif Nat.beq n (X.C.esz p) then .if (inB i (X.C.len p)) (.ref (X.C.elem p i.toNat)) else .no
  | none=>.no
 | some (.slice e),.arr o,.int _ i=>match look hs o,szO X.P e with
  | some (.arr _ p),some n=>bif Nat.beq n (X.C.esz p) then .if (inB i (X.C.len p)) (.epr o i.toNat 0) else .no
  | _,_=>.no
 | some (.array n e),.ptr o k,.int _ i=>match szO X.P e with
  | some m=>.if (inB i n) (.ptr o (k+i.toNat * m))
  | none=>.no
 | some (.array n e),.ref cs,.int _ i=>match szO X.P e with
  | some m=>.if (inB i n) (.ref (cs.drop (i.toNat * m)))
  | none=>.no
 | _,_,_=>.no
def indexD (P:Program) (t:TypeId) (x ix:D α):Res α :=
 match P.underlying t,x,ix with
 | some .string,.str l,.int _ i=>.if (inB i l.length) (.int .u8 (l.getD i.toNat 0).toNat)
 | some (.array n e),.agg cs,.int _ i=>match szO P e,partD P e cs (i.toNat * (szO P e).getD 0) with
  | some _,some d=>.if (inB i n) d
  | _,_=>.no
 | _,_,_=>.no
def optI:Option (D α)→Int→Option Int
 | none,z=>some z
 | some (.int _ n),_=>some n
 | _,_=>none
def spareD (X:Ctx α) (t:TypeId) (p:α):SK→Option α
 | .spare (c::s)=>match X.C.ofBytes t (c::s) with
  | some q=>X.C.cat p q
  | none=>none
 | _=>none
def spk (X:Ctx α) (p:α) (l h:Option (D α)) (b:Int):SK:=match l,h,X.C.bytes p with
 | none,some _,some s=>.spare (s.drop b.toNat)
 | _,_,_=>.any
def sliceD (X:Ctx α) (hs:Obs α) (tm:List (D α)) (t:TypeId) (x:D α) (l h m:Option (D α)):Res α :=
 match X.P.underlying t,x,m with
 | some .string,.str s,none=>match optI l 0,optI h s.length with
  | some a,some b=>.if (decide (0≤a)&&decide (a≤b)&&decide (b≤(s.length:Int))) (.str ((s.drop a.toNat).take (b.toNat - a.toNat)))
  | _,_=>.no
 | some (.slice e),.nilS,none=>match szO X.P e,optI l 0,optI h 0 with
  | some _,some a,some b=>.if ((a==0)&&(b==0)) .nilS
  | _,_,_=>.no
 | some (.slice e),.nilS,some (.int _ c)=>match szO X.P e,optI l 0,h with
  | some _,some a,some (.int _ b)=>.if ((a==0)&&(b==0)&&(c==0)) .nilS
  | _,_,_=>.no
 | some (.slice e),.pl p k,none=>match szO X.P e,optI l 0,optI h (X.C.len p) with
  | some n,some a,some b=>(match spareD X t p k with
   | some r=>.if (Nat.beq n (X.C.esz p)&&decide (0≤a)&&decide (a≤b)&&decide (b≤(X.C.len r:Int))) (.pl (X.C.cut r a.toNat (b.toNat - a.toNat)) .any)
   | none=>.if (Nat.beq n (X.C.esz p)&&decide (0≤a)&&decide (a≤b)&&decide (b≤(X.C.len p:Int))) (.pl (X.C.cut p a.toNat (b.toNat - a.toNat)) .any))
  | _,_,_=>.no
 | some (.slice e),.pl p _,some (.int _ c)=>match szO X.P e,optI l 0,h with
  | some n,some a,some (.int _ b)=>.if (Nat.beq n (X.C.esz p)&&decide (0≤a)&&decide (a≤b)&&decide (b≤(X.C.len p:Int))&&(c==b)) (.pl (X.C.cut p a.toNat (b.toNat - a.toNat)) .full)
  | _,_,_=>.no
 | some (.slice e),.arr o,none=>match look hs o,szO X.P e,optI l 0 with
  | some (.arr _ p),some n,some a=>match optI h (X.C.len p) with
   | some b =>
    let okb:=Nat.beq n (X.C.esz p)&&decide (0≤a)&&decide (a≤b)&&decide (b≤(X.C.len p:Int))
    ⟨okb,.pl (X.C.cut p a.toNat (b.toNat - a.toNat)) (spk X p l h b),some (tm,freeze hs [o])⟩
   | none=>.no
  | _,_,_=>.no
 | _,_,_=>.no
def fillD (place:Nat→Option (Nat×Nat)) (cs:List (D α)):List (Nat×D α)→Option (List (D α))
 | []=>some cs
 | (i,d)::r=>match place i with
  | none=>none
  | some (off,size)=>bif isGood d&&Nat.beq (cellsD d).length size&&Nat.ble (off+size) cs.length then fillD place (overL cs off (cellsD d)) r else none
where
 isGood:D α→Bool
  | .tup _ | .gd _ _ _ | .bad | .lit _ | .ow _ _=>false
  | _=>true
def buildD (P:Program) (t:TypeId) (parts:List (Nat×D α)):Res α :=
 match zeroD (α:=α) P t,P.underlying t with
 | some (.agg z),some (.struct fs)=>match fillD (fun i=>match fs.toList[i]? with
   | some f=>match szO P f.type with
    | some n=>some (f.offset,n)
    | none=>none
   | none=>none) z parts with
  | some cs=>.if (fs.toList.all fun f=>(szO P f.type).isSome) (.agg cs)
  | none=>.no
 | some (.agg z),some (.array _ e)=>match szO P e with
  | some n=>match fillD (fun i=>some (i * n,n)) z parts with
   | some cs=>.v (.agg cs)
   | none=>.no
  | none=>.no
 | _,_=>.no
def zsz (P:Program) (t:TypeId):Bool:=match P.info? t with
 | some i=>match i.zero with
  | some z=>Nat.beq z.cells.size i.size&&z.cells.toList.all Value.oneCell'
  | none=>false
 | none=>false
def rowsOf (n:Nat):Nat→List (Nat×D α)→Option (List (List (D α)))
 | _,[]=>some []
 | i,(j,d)::r=>bif Nat.beq i j&&fillD.isGood d&&Nat.beq (cellsD d).length n then (match rowsOf n (i+1) r with
  | some l=>some (cellsD d::l)
  | none=>none) else none
def snocs (C:Pay α):α→List (List (D α))→Option α
 | p,[]=>some p
 | p,r::l=>match C.snoc p r with
  | some q=>snocs C q l
  | none=>none
def lendAll (C:Pay α) (hs:Obs α):List (D α)→Option (List (D α)×List Nat)
 | []=>some ([],[])
 | d::r=>match lend C hs 40 d,lendAll C hs r with
  | some (x,ns),some (l,ms)=>some (x::l,ns++ms)
  | _,_=>none
def isNil:List Nat→Bool
 | []=>true
 | _=>false
def buildSliceD (X:Ctx α) (hs:Obs α) (tm:List (D α)) (t:TypeId) (len:Nat) (parts:List (Nat×D α)):Res α :=
 match X.P.underlying t with
 | some (.slice e)=>match szO X.P e,bysO X.P e,X.C.emp t,lendAll X.C hs (parts.map (·.2)) with
  | some n,some by_,some p0,some (ds,ns)=>match rowsOf n 0 (parts.zip ds |>.map fun x=>(x.1.1,x.2)) with
   | some rows=>match snocs X.C p0 rows with
    | some p=>⟨Nat.beq rows.length len&&Nat.beq n (X.C.esz p)&&Nat.beq by_ (X.C.bys p)&&Nat.ble (len * n) 16777216&&Nat.ble (len * by_) big&&zsz X.P e,.pl p .full,bif isNil ns then none else some (tm,freeze hs ns)⟩
    | none=>.no
   | none=>.no
  | _,_,_,_=>.no
 | _=>.no
def srcOf (_C:Pay α) (hs:Obs α) (p0:α):D α→Option α
 | .nilS=>some p0
 | .pl p _=>some p
 | .arr o=>match look hs o with
  | some (.arr _ p)=>some p
  | _=>none
 | _=>none
def zeroLen (n:Nat):Bool:=Nat.beq n 0
def appendTo (X:Ctx α) (hs:Obs α) (tm:List (D α)) (dst o n by_:Nat) (z:Bool) (p q:α):Res α :=
 match X.C.cat p q with
 | some r=>⟨Nat.blt dst 40000&&(z&&Nat.beq n (X.C.esz p)&&Nat.beq n (X.C.esz q)&&Nat.beq by_ (X.C.bys p)&&Nat.ble ((X.C.len p+X.C.len q) * by_) big),.arr dst,
   some (tm.map (kill (nsOf o dst)),rebind o dst (.arr false r) hs)⟩
 | none=>.no
def strSrc (X:Ctx α) (t t2:TypeId):D α→Option α
 | .str l=>match X.P.underlying t2 with
  | some .string=>X.C.ofBytes t l
  | _=>none
 | _=>none
def srcD (X:Ctx α) (hs:Obs α) (t t2:TypeId) (p0:α) (y:D α):Option α:=bif Nat.beq t t2 then srcOf X.C hs p0 y else strSrc X t t2 y
def appendD (X:Ctx α) (hs:Obs α) (tm:List (D α)) (dst:Nat) (t t2:TypeId) (x y:D α):Res α :=
 match X.P.underlying t with
 | some (.slice e)=>(match szO X.P e,bysO X.P e,X.C.emp t with
  | some n,some by_,some p0=>match srcD X hs t t2 p0 y with
   | some q=>match x with
    | .nilS=>appendTo X hs tm dst dst n by_ (zsz X.P e) p0 q
    | .pl p .full=>appendTo X hs tm dst dst n by_ (zsz X.P e&&(zeroLen (X.C.len p)||!(zeroLen (X.C.len q)))) p q
    | .arr o=>match look hs o with
     | some (.arr false p)=>appendTo X hs tm dst o n by_ (zsz X.P e) p q
     | _=>.no
    | _=>.no
   | none=>.no
  | _,_,_=>.no)
 | _=>.no
def lenD (X:Ctx α) (hs:Obs α) (t:TypeId) (x:D α):Res α :=
 match X.P.underlying t,x with
 | some .string,.str l=>.v (.int .i64 l.length)
 | some (.slice _),.nilS=>.v (.int .i64 0)
 | some (.slice _),.pl p _=>.v (.int .i64 (X.C.len p))
 | some (.slice _),.arr o=>match look hs o with
  | some (.arr _ p)=>.v (.int .i64 (X.C.len p))
  | _=>.no
 | some (.array n _),_=>.if (inR .i64 n) (.int .i64 n)
 | _,_=>.no
def capD (X:Ctx α) (t:TypeId) (x:D α):Res α :=
 match X.P.underlying t,x with
 | some (.slice _),.nilS=>.v (.int .i64 0)
 | _,_=>.no
def mapOf (X:Ctx α) (hs:Obs α) (t:TypeId):D α→Option α
 | .mp o=>match look hs o with
  | some (.map _ p)=>some p
  | _=>none
 | .mr p=>some p
 | .nilM=>X.C.memp t
 | _=>none
def lookupD (X:Ctx α) (hs:Obs α) (t:TypeId) (x k:D α) (ok:Bool):Res α :=
 match X.P.underlying t,mapOf X hs t x with
 | some (.map kt et),some p=>match X.C.mget p k,zeroD X.P et,shp k with
  | some (v,b),some z,some s=>.if (keyOkD X.P kt s&&leD X.C z (X.C.mzero p)) (bif ok then .tup [v,.bool b] else v)
  | _,_,_=>.no
 | _,_=>.no
def mapUpdateD (X:Ctx α) (tm:List (D α)) (hs:Obs α) (t:TypeId) (x k v:D α):Res α :=
 match X.P.underlying t,x with
 | some (.map kt _),.mp o=>match look hs o with
  | some (.map false p)=>match lendAll X.C hs [v] with
   | some ([v'],ns)=>match X.C.mput p k v',shp k with
    | some q,some s=>⟨keyOkD X.P kt s&&(bif isNil ns then true else closed v'&&ns.all fun m=>!(Nat.beq m o)),.lit undef,some (tm,upd (bif isNil ns then hs else freeze hs ns) o (.map false q))⟩
    | _,_=>.no
   | _=>.no
  | _=>.no
 | _,_=>.no
def makeMapD (X:Ctx α) (tm:List (D α)) (hs:Obs α) (dst:Nat) (t:TypeId):Res α :=
 match X.P.underlying t,X.C.memp t with
 | some (.map _ _),some p=>⟨Nat.blt dst 40000,.mp dst,some (tm.map (kill (nsOf dst dst)),rebind dst dst (.map false p) hs)⟩
 | _,_=>.no
def zu8 (P:Program) (t:TypeId):Bool:=match P.info? t with
 | some i=>match i.zero with
  | some (.int .u8 n)=>(n==0)&&Nat.beq i.size 1&&Nat.beq i.bytes 1
  | _=>false
 | none=>false
def zi64 (P:Program) (t:TypeId):Bool:=match P.info? t with
 | some i=>match i.zero with
  | some (.int .i64 n)=>(n==0)&&Nat.beq i.size 1&&Nat.beq i.bytes 8
  | _=>false
 | none=>false
def zboo (P:Program) (t:TypeId):Bool:=match P.info? t with
 | some i=>match i.zero with
  | some (.bool b)=>!b&&Nat.beq i.size 1&&Nat.beq i.bytes 1
  | _=>false
 | none=>false
def makeSliceD (X:Ctx α) (tm:List (D α)) (hs:Obs α) (dst:Nat) (t:TypeId) (x y:D α):Res α :=
 match X.P.underlying t,x,y with
 | some (.slice e),.int _ n,.int _ m=>bif zu8 X.P e then (match X.C.ofBytes t (List.replicate n.toNat 0) with
  | some p=>⟨Nat.blt dst 40000&&(zu8 X.P e&&decide (0≤n)&&(n==m)&&Nat.ble n.toNat big),.arr dst,some (tm.map (kill (nsOf dst dst)),rebind dst dst (.arr false p) hs)⟩
  | none=>.no)
  else (match X.C.rep t n.toNat with
  | some p=>⟨Nat.blt dst 40000&&(((zi64 X.P e&&Nat.beq (X.C.bys p) 8)||(zboo X.P e&&Nat.beq (X.C.bys p) 1))&&decide (0≤n)&&(n==m)&&Nat.ble (n.toNat * 8) big),.arr dst,some (tm.map (kill (nsOf dst dst)),rebind dst dst (.arr false p) hs)⟩
  | none=>.no)
 | _,_,_=>.no
def minD (gt:Bool):D α→List (D α)→Option (D α)
 | d,[]=>some d
 | .int k x,.int k' y::r=>bif k==k' then minD gt (.int k (bif (bif gt then decide (y > x) else decide (y < x)) then y else x)) r else none
 | _,_=>none
def atP:List Nat→D α→Option (D α)
 | [],d=>some d
 | i::r,.agg cs=>match cs[i]? with
  | some c=>atP r c
  | none=>none
 | i::r,.tup cs=>match cs[i]? with
  | some c=>atP r c
  | none=>none
 | _::_,_=>none
def putP:List Nat→D α→D α→D α
 | [],x,_=>x
 | i::r,x,.agg cs=>match cs[i]? with
  | some c=>.agg (setT cs i (putP r x c))
  | none=>.agg cs
 | i::r,x,.tup cs=>match cs[i]? with
  | some c=>.tup (setT cs i (putP r x c))
  | none=>.tup cs
 | _::_,_,d=>d
def newN (hs:Obs α) (n:Nat):Option Nat:=bif !(Nat.blt n 40000) then none else match look hs n with
 | none=>some n
 | some _=>match look hs (n+1000) with
  | none=>some (n+1000)
  | some _=>none
def bindD (hs:Obs α) (dst:Option Nat) (d:D α):Option (Nat×α×D α):=match d,dst with
 | .ow k e,some n=>match atP k e,newN hs n with
  | some (.pl p _),some m=>some (m,p,putP k (.arr m) e)
  | _,_=>none
 | _,_=>none
def mOf (X:Ctx α) (f:FuncId):Bool:=bif X.noM then false else X.isM f
def nmOf:List (Nat×Nat)→Nat→Option Nat
 | [],_=>none
 | (o,c)::r,k=>bif Nat.beq o k then some c else nmOf r k
def pack (C:Pay α) (hs:Obs α) (nm:List (Nat×Nat)):Nat→D α→Option (D α×List Nat)
 | 0,_=>none
 | _+1,.arr o=>match nmOf nm o with
  | some c=>some (.arr c,[])
  | none=>match look hs o with
   | some (.arr _ p)=>some (.pl p .any,[o])
   | _=>none
 | n+1,.ptr o off=>match nmOf nm o with
  | some c=>some (.ptr c off,[])
  | none=>match look hs o with
   | some (.box _ cs)=>match packL C hs nm n (cs.drop off) with
    | some (l,ns)=>some (.ref l,o::ns)
    | none=>none
   | _=>none
 | _+1,.epr o i off=>match nmOf nm o with
  | some c=>some (.epr c i off,[])
  | none=>match look hs o with
   | some (.arr _ p)=>some (.ref ((C.elem p i).drop off),[o])
   | _=>none
 | _+1,.mp o=>match nmOf nm o with
  | some c=>some (.mp c,[])
  | none=>match look hs o with
   | some (.map _ p)=>some (.mr p,[o])
   | _=>none
 | n+1,.agg cs=>match packL C hs nm n cs with
  | some (l,ns)=>some (.agg l,ns)
  | none=>none
 | n+1,.tup cs=>match packL C hs nm n cs with
  | some (l,ns)=>some (.tup l,ns)
  | none=>none
 | n+1,.ref cs=>match packL C hs nm n cs with
  | some (l,ns)=>some (.ref l,ns)
  | none=>none
 | n+1,.fn f cs=>match packL C hs nm n cs with
  | some (l,ns)=>some (.fn f l,ns)
  | none=>none
 | n+1,.ifc t d=>match pack C hs nm n d with
  | some (x,ns)=>some (.ifc t x,ns)
  | none=>none
 | _+1,.gd _ _ _=>none
 | _+1,.ow _ _=>none
 | _+1,d=>some (d,[])
where
 packL (C:Pay α) (hs:Obs α) (nm:List (Nat×Nat)):Nat→List (D α)→Option (List (D α)×List Nat)
  | _,[]=>some ([],[])
  | 0,_::_=>none
  | n+1,d::r=>match pack C hs nm n d,packL C hs nm n r with
   | some (x,ns),some (l,ms)=>some (x::l,ns++ms)
   | _,_=>none
def packAll (C:Pay α) (hs:Obs α) (nm:List (Nat×Nat)):List (D α)→Option (List (D α)×List Nat)
 | []=>some ([],[])
 | d::r=>match pack C hs nm 40 d,packAll C hs nm r with
  | some (x,ns),some (l,ms)=>some (x::l,ns++ms)
  | _,_=>none
def packOb (C:Pay α) (hs:Obs α) (nm:List (Nat×Nat)):Ob α→Option (Ob α×List Nat)
 | .box false cs=>match packAll C hs nm cs with
  | some (l,ns)=>some (.box false l,ns)
  | none=>none
 | .arr false p=>some (.arr false p,[])
 | .map false p=>some (.map false p,[])
 | _=>none
def packH (C:Pay α) (hs:Obs α) (nm:List (Nat×Nat)):List (Nat×Nat)→Option (Obs α×List Nat)
 | []=>some ([],[])
 | (o,c)::r=>match look hs o with
  | some ob=>match packOb C hs nm ob,packH C hs nm r with
   | some (x,ns),some (H,ms)=>some ((c,x)::H,ns++ms)
   | _,_=>none
  | none=>none
def memNat:List Nat→Nat→Bool
 | [],_=>false
 | x::r,n=>Nat.beq x n||memNat r n
def distinctN:List Nat→Bool
 | []=>true
 | x::r=>!(memNat r x)&&distinctN r
def packE (C:Pay α) (hs:Obs α) (nm:List (Nat×Nat)) (ds:List (D α)):Option (Obs α×List (D α)×List Nat) :=
 match packH C hs nm nm,packAll C hs nm ds with
 | some (H,ns),some (l,ms)=>bif distinctN (nm.map (·.1))&&(distinctN (nm.map (·.2))&&(ns++ms).all fun o=>(nmOf nm o).isNone) then some (H,l,ns++ms) else none
 | _,_=>none
def nestsC (hs:Obs α) (base:Nat):Nat→List (D α)→List (Nat×Nat)
 | _,[]=>[]
 | j,.arr a::r=>match look hs a with
  | some (.arr false _)=>(a,base+j)::nestsC hs base (j+1) r
  | _=>nestsC hs base (j+1) r
 | j,.mp a::r=>match look hs a with
  | some (.map false _)=>(a,base+j)::nestsC hs base (j+1) r
  | _=>nestsC hs base (j+1) r
 | j,_::r=>nestsC hs base (j+1) r
def nestsOf (hs:Obs α) (f:Nat→Nat):List (Nat×Nat)→List (Nat×Nat)
 | []=>[]
 | (o,c)::r=>match look hs o with
  | some (.box _ cs)=>nestsC hs (f c) 0 cs++nestsOf hs f r
  | _=>nestsOf hs f r
def inNest (c:Nat):Nat:=100000+1000 * (c - 50000)
def outNest (c:Nat):Nat:=10000000+1000 * c
mutual
def namesD:D α→List Nat
 | .ptr o _ | .mp o=>[o]
 | .agg cs | .tup cs | .fn _ cs=>namesL cs
 | .ifc _ d=>namesD d
 | _=>[]
def namesL:List (D α)→List Nat
 | []=>[]
 | d::r=>namesD d++namesL r
end
def namesC:List (D α)→List Nat
 | []=>[]
 | .mp _::r=>namesC r
 | d::r=>namesD d++namesC r
def boxesOf (hs:Obs α):Nat→List Nat→List Nat→List Nat
 | 0,_,acc=>acc
 | _+1,[],acc=>acc
 | n+1,o::r,acc=>bif memNat acc o then boxesOf hs n r acc else match look hs o with
  | some (.box false cs)=>boxesOf hs n (r++namesC cs) (acc++[o])
  | some (.map false _)=>boxesOf hs n r (acc++[o])
  | _=>boxesOf hs n r acc
def topNm:Nat→List Nat→List (Nat×Nat)
 | _,[]=>[]
 | i,o::r=>(o,50000+i)::topNm (i+1) r
def encH:Obs α→List (D α)
 | []=>[]
 | (n,.box _ cs)::r=>.obB n cs::encH r
 | (n,.arr _ p)::r=>.obA n p::encH r
 | (n,.map _ p)::r=>.obM n p::encH r
def decH:List (D α)→Obs α
 | []=>[]
 | .obB n cs::r=>(n,.box false cs)::decH r
 | .obA n p::r=>(n,.arr false p)::decH r
 | .obM n p::r=>(n,.map false p)::decH r
 | _::r=>decH r
def swapN:List (Nat×Nat)→List (Nat×Nat)
 | []=>[]
 | (a,b)::r=>(b,a)::swapN r
def dropA (ns:Nat→Bool):Obs α→Obs α
 | []=>[]
 | (n,x)::r=>bif ns n then dropA ns r else (n,x)::dropA ns r
def topOk (hs:Obs α) (x:Nat×Nat):Bool:=match look hs x.1 with
 | some (.box _ _)=>Nat.blt x.2 100000&&!(Nat.blt x.2 50000)
 | some (.map _ _)=>Nat.blt x.2 100000&&!(Nat.blt x.2 50000)
 | _=>false
def callM (X:Ctx α) (hs:Obs α) (args:List (D α)):Option (List (Nat×Nat)×List (Nat×Nat)×Obs α×List (D α)×List Nat) :=
 let tops:=topNm 0 (boxesOf hs 64 (namesL args) [])
 let nests:=nestsOf hs inNest tops
 match packE X.C hs (tops++nests) args with
 | some (H,ds,ns)=>bif tops.all (topOk hs) then some (tops,nests,H,ds,ns) else none
 | none=>none
def aboveN:Nat→Obs α→Nat
 | n,[]=>n
 | n,(m,_)::r=>bif Nat.ble n m then aboveN (m+1) r else aboveN n r
def nmFrom:Nat→List Nat→List (Nat×Nat)
 | _,[]=>[]
 | i,o::r=>(o,i)::nmFrom (i+1) r
def isNew (n:Nat):Bool:=Nat.ble 90000000 n&&Nat.blt n 90100000
def newsOf (base:Nat) (H:Obs α):List (Nat×Nat):=nmFrom base ((H.map (·.1)).filter isNew)
def backM (X:Ctx α) (tm:List (D α)) (hs:Obs α) (tops nests:List (Nat×Nat)) (ns:List Nat) (H:Obs α) (d:D α):Option (List (D α)×Obs α×D α) :=
 let bt:=swapN tops
 let ks:=fun k=>memNat (nests.map (·.1)) k
 let old:=killH ks (dropA (fun k=>memNat ((tops++nests).map (·.1)) k) (freeze hs ns))
 let nw:=newsOf (aboveN 1000000000000 hs) H
 let bn:=nw++nestsOf H outNest (bt++nw)
 let bm:=bt++bn
 match packE X.C H bm [d] with
 | some (H2,[d'],_) =>
  bif (bm.all fun x=>(look old x.2).isNone)&&bn.all fun x=>Nat.ble 100000 x.2 then some (tm.map (kill ks),H2++old,d') else none
 | _=>none
def callMD (X:Ctx α) (hs:Obs α) (tm:List (D α)) (f:FuncId) (args:List (D α)):Res α :=
 match callM X hs args with
 | some (tops,nests,H,ds,ns)=>match X.R (f+1000000) (.env (encH H) .bad::ds) with
  | some (b,.env os d)=>match backM X tm hs tops nests ns (decH os) d with
   | some (tm',hs',d')=>⟨b,d',some (tm',hs')⟩
   | none=>.no
  | _=>.no
 | none=>.no
def callD (X:Ctx α) (hs:Obs α) (tm:List (D α)) (dst:Option Nat) (f:FuncId) (args:List (D α)):Res α :=
 bif mOf X f then callMD X hs tm f args else
 match (bif Nat.blt f 1000000 then lendAll X.C hs args else none) with
 | some (ds,ns)=>match X.R f ds with
  | some (b,d)=>match bindD hs dst d with
   | some (m,p,e)=>⟨b&&closed d,e,some (tm,(m,.arr false p)::freeze hs ns)⟩
   | none=>bif isNil ns||flat d then ⟨b&&closed d,d,none⟩ else ⟨b&&closed d,d,some (tm,freeze hs ns)⟩
  | none=>.no
 | none=>.no
def boxD (tm:List (D α)) (hs:Obs α) (dst:Nat) (cs:List (D α)):Res α :=
 ⟨Nat.blt dst 40000,.ptr dst 0,some (tm.map (kill (nsOf dst dst)),rebind dst dst (.box false (killL (nsOf dst dst) cs)) hs)⟩
def noName (dst:Nat):List (D α)→Bool
 | _=>Nat.ble 0 dst
def storeD (X:Ctx α) (tm:List (D α)) (hs:Obs α) (t:TypeId) (a d:D α):Res α :=
 match storeCellsD X.P t d with
 | some cs=>match a with
  | .ptr o off=>match look hs o with
   | some (.box false old)=>⟨Nat.ble (off+cs.length) old.length,.lit undef,some (tm,upd hs o (.box false (overL old off cs)))⟩
   | _=>.no
  | .epr o i off=>match look hs o with
   | some (.arr false p)=>match lendAll X.C hs cs with
    | some (ds,ns)=>match X.C.set p i (overL (X.C.elem p i) off ds) with
     | some q=>⟨Nat.ble (off+cs.length) (X.C.esz p)&&inB i (X.C.len p)&&isNil ns,.lit undef,some (tm,upd hs o (.arr false q))⟩
     | none=>.no
    | none=>.no
   | _=>.no
  | _=>.no
 | none=>.no
def cellsAt (C:Pay α) (hs:Obs α):D α→Option (List (D α)×Nat)
 | .ptr o off=>match look hs o with
  | some (.box _ cs)=>some (cs,off)
  | _=>none
 | .epr o i off=>match look hs o with
  | some (.arr _ p)=>some (C.elem p i,off)
  | _=>none
 | .ref cs=>some (cs,0)
 | _=>none
def slotOf (ops:Array Oper) (j:Nat):Option Nat:=(ops[j]?).bind (·.dst)
def tmpOf:Operand→Option Nat
 | .tmp t=>some t
 | _=>none
def mvB:Nat:=100000000
def evK (X:Ctx α) (tm:List (D α)) (ks:List (Nat×Bool)):Operand→D α
 | .tmp t=>strip ks (getT tm t)
 | .const v=>ofV v
 | .global g=>match X.glob g with
  | some cs=>.ref cs
  | none=>.bad
 | .func f=>bif Nat.blt f mvB then .fn f [] else .bad
def fnId (g:FuncId):FuncId:=bif Nat.blt g mvB then g else g % mvB
def capA (g:FuncId) (cs l:List (D α)):List (D α):=bif Nat.blt g mvB then l++cs else cs++l
def evalOp (X:Ctx α) (tm:List (D α)) (hs:Obs α) (ks:List (Nat×Bool)) (o:Oper):Res α :=
 let e:=evK X tm ks
 let dst:=o.dst.getD 0
 match o.op with
 | .move x | .assign x=>.v (e x)
 | .pick c a b=>match e c,tmpOf c with
  | .bool cb,some s=>match evK X tm ((s,true)::ks) a,evK X tm ((s,false)::ks) b with
   | .bool x,.bool y=>.v (.bool (bif cb then x else y))
   | x,y=>.v (bif cb then x else y)
  | .bool cb,none=>.v (bif cb then e a else e b)
  | _,_=>.no
 | .box t x=>match storeCellsD X.P t (e x) with
  | some cs=>boxD tm hs dst cs
  | none=>.no
 | .alloc t=>match zeroD (α:=α) X.P t with
  | some z=>bif goodCells (cellsD z) then boxD tm hs dst (cellsD z) else .no
  | none=>.no
 | .build t ps=>buildD X.P t (ps.toList.map fun x=>(x.1,e x.2))
 | .buildSlice t n ps=>buildSliceD X hs tm t n (ps.toList.map fun x=>(x.1,e x.2))
 | .load t a=>match cellsAt X.C hs (e a) with
  | some (cs,off)=>.o (loadD X.P t cs off)
  | none=>.no
 | .store t a x=>storeD X tm hs t (e a) (e x)
 | .makeMap t none=>makeMapD X tm hs dst t
 | .makeSlice t x y=>makeSliceD X tm hs dst t (e x) (e y)
 | .lookup t x k ok=>lookupD X hs t (e x) (e k) ok
 | .mapUpdate t m k x=>mapUpdateD X tm hs t (e m) (e k) (e x)
 | .insert t m k x=>mapUpdateD X tm hs t (e m) (e k) (e x)
 | .nilCheck x=>match e x with
  | .ptr o k=>.v (.ptr o k)
  | .epr o i k=>.v (.epr o i k)
  | .ref cs=>.v (.ref cs)
  | .fn f cs=>.v (.fn f cs)
  | .mref b cs=>.if b (.ref cs)
  | _=>.no
 | .binOp op t x y _=>binN X op t x y (e x) (e y)
 | .unOp op _ x=>unD op (e x)
 | .convert s t x=>convD X hs s t (e x)
 | .makeFunc (.func f) first cap=>bif Nat.blt f mvB then (bif Nat.beq first.size 0 then .v (.fn f (cap.toList.map e)) else bif Nat.beq cap.size 0 then .v (.fn (f+mvB) (first.toList.map e)) else .no) else .no
 | .slice t x l h m=>sliceD X hs tm t (e x) (l.map e) (h.map e) (m.map e)
 | .fieldAddr t x f=>fieldAddrD X.P t (e x) f
 | .field t x f=>fieldD X.P t (e x) f
 | .indexAddr t x i=>indexAddrD X hs t (e x) (e i)
 | .index t x i=>indexD X.P t (e x) (e i)
 | .extract x i=>match e x with
  | .tup ds=>.o ds[i]?
  | _=>.no
 | .call { callee:=.value f,args,.. }=>match e f with
  | .fn g cs=>callD X hs tm o.dst (fnId g) (capA g cs (args.toList.map e))
  | _=>.no
 | .call { callee:=.builtin .len,args,argTypes }=>match args.toList,argTypes.toList with
  | [x],[t]=>lenD X hs t (e x)
  | _,_=>.no
 | .call { callee:=.builtin .cap,args,argTypes }=>match args.toList,argTypes.toList with
  | [x],[t]=>capD X t (e x)
  | _,_=>.no
 | .call { callee:=.builtin .append,args,argTypes }=>match args.toList,argTypes.toList with
  | [x,y],[t,t2]=>appendD X hs tm dst t t2 (e x) (e y)
  | _,_=>.no
 | .call { callee:=.builtin .min,args,.. }=>match args.toList with
  | x::r=>.o (minD false (e x) (r.map e))
  | []=>.no
 | .call { callee:=.builtin .max,args,.. }=>match args.toList with
  | x::r=>.o (minD true (e x) (r.map e))
  | []=>.no
 | _=>.no
def guardD (ops:Array Oper) (i:Nat) (tm:List (D α)) (o:Oper):Option (List (Nat×Bool)×Bool) :=
 match o.guard with
 | none=>some ([],true)
 | some (j,want)=>bif Nat.ble (j+1) i then (match slotOf ops j with
  | none=>none
  | some s=>match getT tm s with
   | .bool b=>some ([(s,want)],b==want)
   | .gd ks t (.bool b)=>some ((s,want)::ks,(b==want)&&t)
   | .gd ks t .bad=>bif t then none else some ((s,want)::ks,false)
   | _=>none) else none
def chk {γ:Type} (b:Bool) (x:Option γ):Option γ:=bif b then x else none
def br {γ:Type} (b:Bool) (x y:Option γ):Option γ:=bif b then x else y
def preOf (acc:List Nat) (l:List Edge):Nat :=
 match l with
 | []=>0
 | e::r=>bif Region.binds .any e then Nat.lor (Nat.lor (Nat.shiftLeft 1 e.on) ((acc[e.on]?).getD 0)) (preOf acc r) else preOf acc r
def presOf:List Oper→List Nat→List Nat
 | [],acc=>acc
 | o::r,acc=>presOf r (acc++[preOf acc o.after.toList])
def hasBit (m i:Nat):Bool:=Nat.beq (Nat.land (Nat.shiftRight m i) 1) 1
def backOK:Nat→List Oper→Bool
 | _,[]=>true
 | i,o::r=>o.after.toList.all (fun e=>!Region.binds .any e||Nat.ble (e.on+1) i)&&backOK (i+1) r
def memN:List Nat→Nat→Bool
 | [],_=>false
 | a::r,k=>Nat.beq a k||memN r k
def tmpsOf (ops:Array Oper) (o:Oper):List Nat :=
 (o.op.operands.toList.filterMap tmpOf)++(match o.guard with
  | some (j,_)=>(slotOf ops j).toList
  | none=>[])
def distinctD:List (Option Nat)→Bool
 | []=>true
 | none::r=>distinctD r
 | some a::r=>!(memN (r.filterMap id) a)&&distinctD r
def drawOK (ops:Array Oper) (ws:List Nat):Bool :=
  let n:=ops.size
  let pres:=presOf ops.toList []
  backOK 0 ops.toList&&(List.range n).all fun j=>(List.range j).all fun i =>
    hasBit ((pres[j]?).getD 0) i ||
      (match ops[i]?,ops[j]? with
       | some a,some b=>!(memN ws i)&&!(memN ws j)&&(match a.dst with
           | some d=>!(memN (tmpsOf ops b) d)
           | none=>true)&&(match b.dst with
           | some d=>!(memN (tmpsOf ops a) d)
           | none=>true)
       | _,_=>false)
def pureOp (o:Oper):Bool:=match o.op with
 | .move _ | .assign _ | .pick _ _ _ | .binOp _ _ _ _ _ | .unOp _ _ _ | .build _ _ | .field _ _ _ | .index _ _ _ | .fieldAddr _ _ _ | .extract _ _ | .makeFunc _ _ _ | .nilCheck _=>true
 | _=>false
def memOnly (noM:Bool) (o:Oper):Bool:=match o.op with
 | .store _ _ _ | .mapUpdate _ _ _ _ | .insert _ _ _ _ | .slice _ _ _ _ _ | .buildSlice _ _ _=>true
 | .call { callee:=.value _,.. }=>noM
 | _=>false
def drawB (noM:Bool) (ops:Array Oper) (ws:List Nat):Bool :=
  let n:=ops.size
  let pres:=presOf ops.toList []
  backOK 0 ops.toList&&((List.range n).all fun i=>match ops[i]? with
    | some o=>(!memN ws i||(memOnly noM o&&!pureOp o))
    | none=>true)&&(List.range n).all fun j=>(List.range j).all fun i =>
    hasBit ((pres[j]?).getD 0) i ||
      (match ops[i]?,ops[j]? with
       | some a,some b=>(pureOp a||pureOp b||(!(memN ws i)&&!(memN ws j)))&&(match a.dst with
           | some d=>!(memN (tmpsOf ops b) d)
           | none=>true)&&(match b.dst with
           | some d=>!(memN (tmpsOf ops a) d)
           | none=>true)
       | _,_=>false)
def wrapG (ks:List (Nat×Bool)) (t:Bool) (d:D α):D α :=
 match ks with
 | []=>d
 | ks=>.gd ks t d
def ungd:D α→D α
 | .gd _ _ _=>.bad
 | d=>d
def callOf (X:Ctx α) (tm:List (D α)) (hs:Obs α) (ks:List (Nat×Bool)) (o:Oper):Option (FuncId×List (D α)×List Nat) :=
 match o.op with
 | .call { callee:=.value f,args,.. }=>match evK X tm ks f with
  | .fn g cs=>bif mOf X (fnId g) then none else match (bif Nat.blt (fnId g) 1000000 then lendAll X.C hs (capA g cs (args.toList.map (evK X tm ks))) else none) with
   | some (ds,ns)=>some (fnId g,ds,ns)
   | none=>none
  | _=>none
 | _=>none
def callOfM (X:Ctx α) (tm:List (D α)) (hs:Obs α) (ks:List (Nat×Bool)) (o:Oper):Option (FuncId×List (Nat×Nat)×List (Nat×Nat)×Obs α×List (D α)×List Nat) :=
 match o.op with
 | .call { callee:=.value f,args,.. }=>match evK X tm ks f with
  | .fn g cs=>bif mOf X (fnId g) then (match callM X hs (capA g cs (args.toList.map (evK X tm ks))) with
   | some x=>some (fnId g,x)
   | none=>none) else none
  | _=>none
 | _=>none
def envOf:D α→Option (Obs α×D α)
 | .env os d=>some (decH os,d)
 | _=>none
def isCall (o:Oper):Bool:=match o.op with
 | .call { callee:=.value _,.. }=>true
 | _=>false
def refineT (ops:Array Oper) (o:Oper) (tm:List (D α)) (b:Bool):List (D α) :=
 match o.guard with
 | none=>tm
 | some (j,want)=>match slotOf ops j with
  | none=>tm
  | some s=>match getT tm s with
   | .bool _=>setT tm s (.bool (bif b then want else !want))
   | .gd ks t (.bool b0)=>setT tm s (.gd ks t (.bool (bif t then (bif b then want else !want) else b0)))
   | _=>tm
abbrev CK (α γ:Type):=FuncId→List (D α)→(D α→Option γ)→Option γ
def runL {γ:Type} (X:Ctx α) (RK:CK α γ) (ops:Array Oper):Nat→List Oper→List (D α)→Obs α→List Nat→List (List (D α)×Obs α)→(List (D α)→Obs α→List Nat→List (List (D α)×Obs α)→Option γ)→Option γ
  | _,[],tm,hs,ws,lg,k=>k tm hs ws lg
  | i,o::rest,tm,hs,ws,lg,k =>
    match guardD ops i tm o with
    | none=>none
    | some g => bif isCall o then
        br g.2 (match callOf X (refineT ops o tm true) hs g.1 o with
          | none=>match callOfM X (refineT ops o tm true) hs g.1 o with
            | none=>none
            | some (f,tops,nests,H,ds,ns)=>RK (f+1000000) (.env (encH H) .bad::ds) fun e=>match envOf e with
              | some (H',d)=>match backM X (refineT ops o tm true) hs tops nests ns H' d with
                | some (tm',hs',d')=>runL X RK ops (i+1) rest (putT tm' o.dst d') hs' (i::ws) (lg++[(putT tm' o.dst d',hs')]) k
                | none=>none
              | none=>none
          | some (f,ds,ns)=>RK f ds fun d=>chk (closed d) (match bindD hs o.dst d with
            | some (m,p,e)=>runL X RK ops (i+1) rest (putT (refineT ops o tm true) o.dst e) ((m,.arr false p)::freeze hs ns) (i::ws) (lg++[(putT (refineT ops o tm true) o.dst e,(m,.arr false p)::freeze hs ns)]) k
            | none=>bif isNil ns||flat d then runL X RK ops (i+1) rest (putT (refineT ops o tm true) o.dst d) hs ws (lg++[(putT (refineT ops o tm true) o.dst d,hs)]) k
              else runL X RK ops (i+1) rest (putT (refineT ops o tm true) o.dst d) (freeze hs ns) (i::ws) (lg++[(putT (refineT ops o tm true) o.dst d,freeze hs ns)]) k))
          (runL X RK ops (i+1) rest (putT (refineT ops o tm false) o.dst .bad) hs ws (lg++[(putT (refineT ops o tm false) o.dst .bad,hs)]) k)
      else
        let r:=evalOp X tm hs g.1 o
        match r.ch,o.guard with
        | none,_=>chk (r.ok||!g.2) (runL X RK ops (i+1) rest (putT tm o.dst (wrapG g.1 g.2 r.d)) hs ws (lg++[(putT tm o.dst (wrapG g.1 g.2 r.d),hs)]) k)
        | some (tm',hs'),none=>chk r.ok (runL X RK ops (i+1) rest (putT tm' o.dst r.d) hs' (i::ws) (lg++[(putT tm' o.dst r.d,hs')]) k)
        | some (tm',hs'),some _=>br g.2 (chk r.ok (runL X RK ops (i+1) rest (putT tm' o.dst r.d) hs' (i::ws) (lg++[(putT tm' o.dst r.d,hs')]) k))
            (runL X RK ops (i+1) rest (putT tm o.dst (.bad)) hs (i::ws) (lg++[(putT tm o.dst .bad,hs)]) k)
def addrIn (F:List Nat):D α→Nat
 | .ptr n _=>bif memN F n then 1 else 0
 | .epr n _ _=>bif memN F n then 2 else 0
 | .ref _=>0
 | _=>2
def strT (P:Program) (t:TypeId):Bool:=match P.underlying t with
 | some .string=>true
 | _=>false
def slOk (X:Ctx α) (t:TypeId) (d:D α):Bool:=strT X.P t||(match d with
 | .pl _ _=>true
 | .nilS=>true
 | _=>false)
def isOwD:D α→Bool
 | .ow _ _=>true
 | _=>false
def closedCall (X:Ctx α) (tm:List (D α)) (o:Oper):Bool:=match o.op with
 | .call { callee:=.value f,args,.. }=>(match evK X tm [] f with
  | .fn g cs=>!(mOf X (fnId g))&&closedL (capA g cs (args.toList.map (evK X tm [])))
  | _=>false)
 | _=>false
def closedRes (tm1:List (D α)) (o:Oper):Bool:=match o.dst with
 | some d=>Nat.blt d tm1.length&&(closed (getT tm1 d)&&!(isOwD (getT tm1 d)))
 | none=>false
mutual
def freeD (F:List Nat):D α→Bool
 | .arr n | .ptr n _ | .epr n _ _ | .mp n=>!memN F n
 | .gd _ _ _=>false
 | .agg cs | .tup cs | .ref cs | .fn _ cs=>freeL F cs
 | .ifc _ d=>freeD F d
 | .ow _ d=>freeD F d
 | _=>true
def freeL (F:List Nat):List (D α)→Bool
 | []=>true
 | d::r=>freeD F d&&freeL F r
end
def okC (X:Ctx α) (F:List Nat) (tm:List (D α)) (hs:Obs α) (o:Oper):Bool :=
 (evalOp X tm hs [] o).ok&&match o.op,o.dst with
 | .load _ a,_=>Nat.beq (addrIn F (evK X tm [] a)) 0&&freeD F (evalOp X tm hs [] o).d
 | .lookup _ m _ _,_=>freeD F (evK X tm [] m)&&freeD F (evalOp X tm hs [] o).d
 | .alloc t,some d=>memN F d&&(match zeroD (α:=α) X.P t with
  | some z=>closed z
  | none=>false)
 | .box _ x,some d=>memN F d&&closed (evK X tm [] x)
 | .store _ a x,none=>Nat.beq (addrIn F (evK X tm [] a)) 1&&closed (evK X tm [] x)
 | .slice t x _ _ _,_=>slOk X t (evK X tm [] x)&&closed (evalOp X tm hs [] o).d
 | .indexAddr _ x _,_=>closed (evK X tm [] x)&&closed (evalOp X tm hs [] o).d
 | .call _,_=>closedCall X tm o&&((evalOp X tm hs [] o).ch.isNone&&(closed (evalOp X tm hs [] o).d&&!(isOwD (evalOp X tm hs [] o).d)))
 | _,_=>pureOp o&&freeD F (evalOp X tm hs [] o).d
def okC0 (X:Ctx α) (F:List Nat) (tm:List (D α)) (hs:Obs α) (o:Oper):Bool :=
 match o.op,o.dst with
 | .load _ a,_=>Nat.beq (addrIn F (evK X tm [] a)) 0&&freeD F (evalOp X tm hs [] o).d
 | .lookup _ m _ _,_=>freeD F (evK X tm [] m)&&freeD F (evalOp X tm hs [] o).d
 | .alloc t,some d=>memN F d&&(match zeroD (α:=α) X.P t with
  | some z=>closed z
  | none=>false)
 | .box _ x,some d=>memN F d&&closed (evK X tm [] x)
 | .store _ a x,none=>Nat.beq (addrIn F (evK X tm [] a)) 1&&closed (evK X tm [] x)
 | .slice t x _ _ _,_=>slOk X t (evK X tm [] x)&&closed (evalOp X tm hs [] o).d
 | .indexAddr _ x _,_=>closed (evK X tm [] x)&&closed (evalOp X tm hs [] o).d
 | _,_=>pureOp o&&freeD F (evalOp X tm hs [] o).d
def touchC (X:Ctx α) (tm:List (D α)) (o:Oper):Option Nat :=
 match o.op,o.dst with
 | .alloc _,some d=>some d
 | .box _ _,some d=>some d
 | .store _ a _,none=>match evK X tm [] a with
  | .ptr n _=>some n
  | _=>none
 | _,_=>none
def nextC (X:Ctx α) (tm:List (D α)) (hs:Obs α) (o:Oper):List (D α)×Obs α :=
 let r:=evalOp X tm hs [] o
 match r.ch with
 | none=>(putT tm o.dst r.d,hs)
 | some (tm',hs')=>(putT tm' o.dst r.d,hs')
def stepsW:List Oper→List (D α)×Obs α→List (List (D α)×Obs α)→List (Oper×(List (D α)×Obs α)×(List (D α)×Obs α))
 | o::r,s,s'::l=>(o,s,s')::stepsW r s' l
 | _,_,_=>[]
def runC (X:Ctx α) (F:List Nat):List (Oper×(List (D α)×Obs α)×(List (D α)×Obs α))→Option (List (Option Nat))
 | []=>some []
 | (o,s,s')::r=>bif o.guard.isNone&&(bif isCall o then closedCall X s.1 o&&closedRes s'.1 o else okC0 X F s.1 s.2 o) then (match runC X F r with
   | some l=>some (touchC X s.1 o::l)
   | none=>none) else none
def freeT (F:List Nat):Nat→List (D α)→Bool
 | _,[]=>true
 | i,d::r=>(freeD F d||(match d with
  | .ptr n _=>Nat.beq n i
  | _=>false))&&freeT F (i+1) r
def freeH (F:List Nat):Obs α→Bool
 | []=>true
 | (_,.box _ cs)::r=>freeL F cs&&freeH F r
 | (_,.arr _ _)::r=>freeH F r
 | (_,.map _ _)::r=>freeH F r
def sameO:Option Nat→Option Nat→Bool
 | some a,some b=>Nat.beq a b
 | _,_=>false
def makers:List Oper→List Nat
 | []=>[]
 | o::r=>match o.op,o.dst with
  | .alloc _,some d=>d::makers r
  | .box _ _,some d=>d::makers r
  | _,_=>makers r
def drawC (X:Ctx α) (ops:Array Oper) (lg:List (List (D α)×Obs α)) (tm:List (D α)) (hs:Obs α):Bool :=
  let F:=makers ops.toList
  let n:=ops.size
  let pres:=presOf ops.toList []
  freeT F 0 tm&&freeH F hs&&backOK 0 ops.toList&&match runC X F (stepsW ops.toList (tm,hs) lg) with
    | none=>false
    | some tl=>(List.range n).all fun j=>(List.range j).all fun i =>
      hasBit ((pres[j]?).getD 0) i ||
      (match ops[i]?,ops[j]? with
       | some a,some b=>!(sameO ((tl[i]?).getD none) ((tl[j]?).getD none))&&(match a.dst with
           | some d=>!(memN (tmpsOf ops b) d)
           | none=>true)&&(match b.dst with
           | some d=>!(memN (tmpsOf ops a) d)
           | none=>true)
       | _,_=>false)
def strSl (P:Program) (o:Oper):Bool:=match o.op with
 | .slice t _ _ _ _=>strT P t
 | _=>false
def readsOld (X:Ctx α) (K:List Nat) (yet:Nat→Bool) (hs0:Obs α) (tm:List (D α)) (o:Oper):Bool:=match o.op with
 | .load _ a=>(match evK X tm [] a with
  | .ptr n _=>yet n&&(match look hs0 n with
   | some (.box _ cs)=>freeL K cs
   | _=>false)
  | .ref _=>true
  | _=>false)
 | _=>false
def freshOp (X:Ctx α) (tm:List (D α)) (o:Oper):Bool:=match o.op with
 | .buildSlice _ _ ps=>closedL (ps.toList.map fun x=>evK X tm [] x.2)
 | .convert _ _ x=>closed (evK X tm [] x)
 | .indexAddr _ x _=>closed (evK X tm [] x)
 | .slice t x _ _ _=>slOk X t (evK X tm [] x)
 | _=>false
def hoistOk (X:Ctx α) (ops:Array Oper) (K:List Nat) (yet:Nat→Bool) (sl:List Nat) (tm0:List (D α)) (hs0:Obs α) (hsl:List Nat) (tm:List (D α)) (hs:Obs α) (o:Oper):Bool :=
 ((pureOp o||(strSl X.P o||freshOp X tm o))||readsOld X K yet hs0 tm o)&&((tmpsOf ops o).all (fun u=>memN hsl u||(!(memN sl u)&&freeD K (getT tm0 u)))&&freeD K (evalOp X tm hs [] o).d)
def writesOf (X:Ctx α) (tm:List (D α)) (hs:Obs α) (o:Oper):Option (List Nat×List Nat):=match (evalOp X tm hs [] o).ch with
 | none=>some ([],[])
 | some _=>match o.op,o.dst with
  | .store _ a _,none=>(match evK X tm [] a with
   | .ptr n _=>some ([],[n])
   | .epr n _ _=>some ([],[n])
   | _=>none)
  | .mapUpdate _ m _ v,none=>(match evK X tm [] m,lendAll X.C hs [evK X tm [] v] with
   | .mp n,some (_,ns)=>some ([],n::ns)
   | _,_=>none)
  | .call { callee:=.builtin .append,args,.. },some d=>(match args.toList.map (evK X tm []) with
   | .arr n::_=>some ([n,d],[])
   | _::_=>some ([d],[])
   | []=>none)
  | _,_=>none
def newNames (hs hs1:Obs α):List Nat:=(hs1.map (·.1)).filter fun m=>(look hs m).isNone
def callW (X:Ctx α) (tm:List (D α)) (hs hs1:Obs α) (o:Oper):Option (List Nat×List Nat):=match callOfM X tm hs [] o with
 | some (_,tops,nests,_,_,ns)=>some (nests.map (·.1),tops.map (·.1)++(ns++newNames hs hs1))
 | none=>match callOf X tm hs [] o with
  | some (_,_,ns)=>some ([],ns++newNames hs hs1)
  | none=>none
def writesW (X:Ctx α) (tm:List (D α)) (hs hs1:Obs α) (o:Oper):Option (List Nat×List Nat):=bif isCall o then callW X tm hs hs1 o else writesOf X tm hs o
def runW (X:Ctx α):List (Oper×(List (D α)×Obs α)×(List (D α)×Obs α))→Option (List (List Nat×List Nat))
 | []=>some []
 | (o,s,s')::r=>bif o.guard.isNone then (match writesW X s.1 s.2 s'.2 o with
  | none=>none
  | some l=>(match runW X r with
   | some m=>some (l::m)
   | none=>none)) else none
def keysW:List (List Nat×List Nat)→List Nat
 | []=>[]
 | l::r=>l.1++keysW r
def yetW (pres:List Nat) (wl:List (List Nat×List Nat)) (i n:Nat):Bool:=(List.range wl.length).all fun j=>(match wl[j]? with
 | some l=>!(memN (l.1++l.2) n)
 | none=>true)||hasBit ((pres[j]?).getD 0) i
def walkW (X:Ctx α) (ops:Array Oper) (K:List Nat) (yet:Nat→Nat→Bool) (sl:List Nat) (tm0:List (D α)) (hs0:Obs α):Nat→List Nat→List (Oper×(List (D α)×Obs α)×(List (D α)×Obs α))→List Bool
 | _,_,[]=>[]
 | i,hsl,(o,s,_)::r =>
  let h:=hoistOk X ops K (yet i) sl tm0 hs0 hsl s.1 s.2 o
  h::walkW X ops K yet sl tm0 hs0 (i+1) (bif h then (match o.dst with
   | some d=>d::hsl
   | none=>hsl) else hsl) r
def drawW (X:Ctx α) (ops:Array Oper) (ws:List Nat) (lg:List (List (D α)×Obs α)) (tm:List (D α)) (hs:Obs α):Bool :=
 let n:=ops.size
 let sl:=ops.toList.filterMap (·.dst)
 let pres:=presOf ops.toList []
 let st:=stepsW ops.toList (tm,hs) lg
 match runW X st with
 | none=>false
 | some wl =>
  let hb:=walkW X ops (keysW wl) (yetW pres wl) sl tm hs 0 [] st
  (backOK 0 ops.toList&&(List.range n).all fun j=>(List.range j).all fun i =>
   hasBit ((pres[j]?).getD 0) i||(match ops[i]?,ops[j]? with
    | some a,some b=>(((hb[i]?).getD false||(hb[j]?).getD false)||(!(memN ws i)&&!(memN ws j)))&&(match a.dst with
      | some d=>!(memN (tmpsOf ops b) d)
      | none=>true)&&(match b.dst with
      | some d=>!(memN (tmpsOf ops a) d)
      | none=>true)
    | _,_=>false)) &&
  (List.range n).all fun k=>(List.range (k+1)).all fun i=>match ops[i]?,ops[k]? with
   | some a,some b=>(match b.dst with
    | some d=>!(memN (tmpsOf ops a) d)||(hasBit ((pres[k]?).getD 0) i&&!((hb[k]?).getD false))
    | none=>true)
   | _,_=>true
inductive Ex where
 | normal
 | exit (id:Nat)
 | ret
structure St (α:Type) where
 tm:List (D α)
 hs:Obs α
def loopD {γ:Type} (B:St α→(Ex→St α→Option γ)→Option γ):Nat→St α→(Ex→St α→Option γ)→Option γ
 | 0,_,_=>none
 | n+1,S,k=>B S fun e S'=>match e with
  | .normal=>loopD B n S' k
  | e=>k e S'
def firstId:Code→Nat
 | .region id _ _=>id
 | .seq a _=>firstId a
 | .cond _ a _=>firstId a
 | .block _ b=>firstId b
 | .loop b=>firstId b
 | _=>0
def loopsOf:Code→List Code
 | .seq a b=>loopsOf a++loopsOf b
 | .cond _ a b=>loopsOf a++loopsOf b
 | .block _ b=>loopsOf b
 | .loop b=>b::loopsOf b
 | _=>[]
inductive LR (α:Type) where
 | leaf (e:Ex) (S:St α)
 | ite (c:Bool) (x y:LR α)
def pickR:LR α→Ex×St α
 | .leaf e S=>(e,S)
 | .ite c x y=>bif c then pickR x else pickR y
def runR {γ:Type}:LR α→(Ex→St α→Option γ)→Option γ
 | .leaf e S,k=>k e S
 | .ite c x y,k=>br c (runR x k) (runR y k)
abbrev LK (α:Type):=Nat→St α→Option (Bool×LR α)
def allDst (ops:Array Oper):List (Option Nat):=ops.toList.map (·.dst)
def exec {γ:Type} (X:Ctx α) (RK:CK α γ) (L:LK α):Code→St α→(Ex→St α→Option γ)→Option γ
 | .skip,S,k=>k .normal S
 | .region _ ops draw,S,k =>
  chk (distinctD (allDst ops)||(!draw&&ops.all (fun o=>o.guard.isNone))) (runL X RK ops 0 ops.toList S.tm S.hs [] [] fun tm hs ws lg =>
   chk (!draw||((drawOK ops ws||drawB X.noM ops ws)||(drawC X ops lg S.tm S.hs||drawW X ops ws lg S.tm S.hs))) (k .normal ⟨bif ops.all (fun o=>o.guard.isNone) then tm else tm.map ungd,hs⟩))
 | .seq a b,S,k=>exec X RK L a S fun e S'=>match e with
  | .normal=>exec X RK L b S' k
  | e=>k e S'
 | .cond c a b,S,k=>match evK X S.tm [] c with
  | .bool t=>br t (exec X RK L a S k) (exec X RK L b S k)
  | _=>none
 | .block id body,S,k=>exec X RK L body S fun e S'=>match e with
  | .exit id'=>bif Nat.beq id' id then k .normal S' else k (.exit id') S'
  | e=>k e S'
 | .loop body,S,k=>match L (firstId body) S with
  | some (b,r)=>chk b (runR r k)
  | none=>loopD (fun S k=>exec X RK L body S k) X.N S k
 | .exit id,S,k=>k (.exit id) S
 | .ret,S,k=>k .ret S
 | _,_,_=>none
def resultOf (X:Ctx α) (S:St α):ResultVar→Option (D α)
 | .tmp t=>some (strip [] (getT S.tm t))
 | .cell a t=>match cellsAt X.C S.hs (strip [] (getT S.tm a)) with
  | some (cs,off)=>loadD X.P t cs off
  | none=>none
def resultsOf (X:Ctx α) (S:St α):List ResultVar→Option (List (D α))
 | []=>some []
 | r::l=>match resultOf X S r,resultsOf X S l with
  | some d,some ds=>some (d::ds)
  | _,_=>none
def packR:List (D α)→D α
 | [d]=>d
 | ds=>.tup ds
def ownAt (hs:Obs α):D α→Option Nat
 | .arr o=>match look hs o with
  | some (.arr false _)=>some o
  | _=>none
 | _=>none
def ownIn (hs:Obs α):Nat→List (D α)→Option (Nat×Nat)
 | _,[]=>none
 | i,d::r=>match ownAt hs d with
  | some o=>some (i,o)
  | none=>ownIn hs (i+1) r
def ownOf (hs:Obs α):Nat→List (D α)→Option (List Nat×Nat)
 | _,[]=>none
 | i,d::r=>match ownAt hs d with
  | some o=>some ([i],o)
  | none=>match d with
   | .agg cs=>match ownIn hs 0 cs with
    | some (j,o)=>some ([i,j],o)
    | none=>ownOf hs (i+1) r
   | _=>ownOf hs (i+1) r
def finOwn (X:Ctx α) (hs:Obs α) (ds:List (D α)) (k:List Nat) (o:Nat):Option (D α) :=
 match look hs o,atP k (.tup ds) with
 | some (.arr false p),some (.arr o')=>bif Nat.beq o o' then (match lend X.C hs 40 (putP k .nilS (.tup ds)) with
  | some (l,ns)=>bif memN ns o||!(closed l) then none else (match atP k l,l,k with
   | some .nilS,.tup [d],0::r=>some (.ow r (putP r (.pl p .any) d))
   | some .nilS,.tup (_::_::_),_=>some (.ow k (putP k (.pl p .any) l))
   | _,_,_=>none)
  | none=>none) else none
 | _,_=>none
def finD (X:Ctx α) (fn:Func) (S:St α):Option (D α) :=
 match resultsOf X S fn.results.toList with
 | some ds=>match bif X.own then (match ownOf S.hs 0 ds with
   | some (k,o)=>finOwn X S.hs ds k o
   | none=>none) else none with
  | some d=>some d
  | none=>match lendAll X.C S.hs ds with
   | some (l,_)=>bif closedL l then some (packR l) else none
   | none=>none
 | none=>none
def fnK {γ:Type} (X:Ctx α) (RK:CK α γ) (L:LK α) (fn:Func) (args:List (D α)) (k:D α→Option γ):Option γ :=
 match fn.body with
 | some c=>exec X RK L c ⟨args++List.replicate (fn.ntmps - args.length) .bad,[]⟩ fun e S=>match e with
  | .exit _=>none
  | _=>match finD X fn S with
   | some d=>k d
   | none=>none
 | none=>none
mutual
def ptrsD (own:Bool):D α→List Nat
 | .ptr o _=>[o]
 | .arr o=>bif own then [o] else []
 | .agg cs | .tup cs | .fn _ cs=>ptrsL own cs
 | .ifc _ d=>ptrsD own d
 | _=>[]
def ptrsL (own:Bool):List (D α)→List Nat
 | []=>[]
 | d::r=>ptrsD own d++ptrsL own r
end
def finM (X:Ctx α) (fn:Func) (H:Obs α) (S:St α):Option (D α) :=
 match resultsOf X S fn.results.toList with
 | some ds =>
  let tops:=(H.filter fun x=>Nat.blt x.1 100000).map fun x=>(x.1,x.1)
  let nw:=nmFrom 90000000 ((boxesOf S.hs 64 (ptrsL X.own ds++tops.map (·.1)) []).filter fun o=>!(memNat (tops.map (·.1)) o))
  match packE X.C S.hs (tops++(nw++nestsOf S.hs inNest (tops++nw))) ds with
  | some (H',l,_)=>bif tops.all (topOk H) then some (.env (encH H') (packR l)) else none
  | none=>none
 | none=>none
def fnM {γ:Type} (X:Ctx α) (RK:CK α γ) (L:LK α) (fn:Func) (H:Obs α) (args:List (D α)) (k:D α→Option γ):Option γ :=
 match fn.body with
 | some c=>exec X RK L c ⟨args++List.replicate (fn.ntmps - args.length) .bad,H⟩ fun e S=>match e with
  | .exit _=>none
  | _=>match finM X fn H S with
   | some d=>k d
   | none=>none
 | none=>none
end
end Go.Eng
namespace Go.Eng
open Go.RowKit
variable {α:Type}
structure Szd (es:Array MapEntry) (clock n:Nat):Prop where
 size:es.size=n
 st:MapKept.Stamped es clock
structure Cx (α:Type) where
 w:World
 av:Nat→Prop
 bx:Nat→Option Nat
 ar:Nat→Option (Option Nat×α)
def okK (k:SK) (a:Option Addr) (n c:Nat):Prop :=
 match k with
 | .any=>True
 | .full=>c=n
 | .nil b=>a.isNone=b
 | .spare _=>True
def SpOk (C:Pay α) (w:World) (p:α) (k:SK) (b off n c:Nat):Prop :=
 match k with
 | .spare l=>n+l.length≤c∧(n+l.length) * C.bys p≤big∧C.esz p=1∧∀i (h:i < l.length),w.cell? ⟨b,off+(n+i),none⟩=some (.int .u8 l[i].toNat)
 | _=>True
def AlOk (C:Pay α) (w:World) (p:α) (b off:Nat):Prop:=C.al p=true→off % C.esz p=0∧∃cells T,w.heap[b]?=some (.cells cells T (0,0))
def mkFn (f:FuncId) (vs:Array Value):Value:=bif Nat.blt f mvB then .func (.func f) #[] vs else .func (.func (f % mvB)) vs #[]
inductive RD (C:Pay α) (cx:Cx α):Value→D α→Prop
 | bool (b:Bool):RD C cx (.bool b) (.bool b)
 | int (k:IntKind) (n:Int) (h:inR k n=true):RD C cx (.int k n) (.int k n)
 | str (s:ByteArray) (l:List UInt8) (h:s.data.toList=l) (hl:l.length≤big):RD C cx (.string s) (.str l)
 | nilP:RD C cx (.pointer none) .nilP
 | nilS:RD C cx (.slice none 0 0) .nilS
 | nilF:RD C cx .nilFunc .nilF
 | nilI:RD C cx .nilIface .nilI
 | nilM:RD C cx (.map none) .nilM
 | lit (v:Value):RD C cx v (.lit v)
 | agg (vs:Array Value) (cs:List (D α)) (hs:vs.size=cs.length) (h1:∀(i:Nat) v,vs[i]?=some v→v.oneCell'=true)
   (h:∀(i:Nat) v c,vs[i]?=some v→cs[i]?=some c→RD C cx v c):RD C cx (.agg vs) (.agg cs)
 | tup (vs:Array Value) (cs:List (D α)) (hs:vs.size=cs.length)
   (h:∀(i:Nat) v c,vs[i]?=some v→cs[i]?=some c→RD C cx v c):RD C cx (.tuple vs) (.tup cs)
 | pl0 (a:Option Addr) (c:Nat) (p:α) (k:SK) (hl:C.len p=0) (hk:okK k a 0 c) (hsp:isSp k=false:=by rfl):RD C cx (.slice a 0 c) (.pl p k)
 | pl (b off n c:Nat) (p:α) (k:SK) (vs:Nat→Nat→Value) (hn:n=C.len p) (hc:n≤c) (hb:n * C.bys p≤big)
   (hk:okK k (some ⟨b,off,none⟩) n c) (hav:¬ cx.av b)
   (hcell:∀(i j:Nat) d,i < n→(C.elem p i)[j]?=some d→cx.w.cell? ⟨b,off+(i * C.esz p+j),none⟩=some (vs i j))
   (h1:∀(i j:Nat) d,i < n→(C.elem p i)[j]?=some d→(vs i j).oneCell'=true)
   (hrd:∀(i j:Nat) d,i < n→(C.elem p i)[j]?=some d→RD C cx (vs i j) d) (hsp:SpOk C cx.w p k b off n c:=by exact True.intro) (hal:AlOk C cx.w p b off:=by first | assumption | exact fun h=>Bool.noConfusion h):RD C cx (.slice (some ⟨b,off,none⟩) n c) (.pl p k)
 | arrO (o b:Nat) (p:α) (n c:Nat) (ho:cx.ar o=some (some b,p)) (hn:n=C.len p) (hc:n≤c)
   (hsz:∃cells T fz,cx.w.heap[b]?=some (.cells cells T fz)∧c * C.esz p≤cells.size):RD C cx (.slice (some ⟨b,0,none⟩) n c) (.arr o)
 | arrN (o:Nat) (p:α) (a:Option Addr) (ho:cx.ar o=some (none,p)) (hn:C.len p=0):RD C cx (.slice a 0 0) (.arr o)
 | ptr (o off b:Nat) (ho:cx.bx o=some b):RD C cx (.pointer (some ⟨b,off,none⟩)) (.ptr o off)
 | epr (o i off b:Nat) (p:α) (ho:cx.ar o=some (some b,p)) (hi:i < C.len p):RD C cx (.pointer (some ⟨b,i * C.esz p+off,none⟩)) (.epr o i off)
 | mp (o b:Nat) (ho:cx.bx o=some b):RD C cx (.map (some b)) (.mp o)
 | mr (b clock:Nat) (es:Array MapEntry) (p:α) (hav:¬ cx.av b) (hh:cx.w.heap[b]?=some (.map es clock)) (hs:Szd es clock (C.len p))
   (hd:∀i j,i < C.len p→j < C.len p→C.mkey p i=C.mkey p j→i=j)
   (hk:∀(i:Nat) e,es[i]?=some e→RD C cx e.key (C.mkey p i)) (hv:∀(i:Nat) e,es[i]?=some e→RD C cx e.val (C.mval p i)):RD C cx (.map (some b)) (.mr p)
 | ref (b off:Nat) (cs:List (D α)) (vs:Nat→Value) (hav:cs≠[]→¬ cx.av b)
   (hcell:∀(i:Nat) c,cs[i]?=some c→cx.w.cell? ⟨b,off+i,none⟩=some (vs i))
   (h1:∀(i:Nat) c,cs[i]?=some c→(vs i).oneCell'=true)
   (hrd:∀(i:Nat) c,cs[i]?=some c→RD C cx (vs i) c):RD C cx (.pointer (some ⟨b,off,none⟩)) (.ref cs)
 | fn (f f':FuncId) (a b vs:Array Value) (cs:List (D α)) (hs:vs.size=cs.length)
   (h:∀(i:Nat) v c,vs[i]?=some v→cs[i]?=some c→RD C cx v c) (hm:Value.func (.func f') a b=mkFn f vs):RD C cx (.func (.func f') a b) (.fn f cs)
 | ifc (t:TypeId) (v:Value) (d:D α) (h:RD C cx v d):RD C cx (.iface t v) (.ifc t d)
 | ifa (t:TypeId) (v:Value):RD C cx (.iface t v) .ifa
 | mrefN (cs:List (D α)):RD C cx (.pointer none) (.mref false cs)
 | mrefS (a:Addr) (cs:List (D α)) (hc:closedL cs=true) (h:RD C cx (.pointer (some a)) (.ref cs)):RD C cx (.pointer (some a)) (.mref true cs)
 | ow (k:List Nat) (v:Value) (d:D α) (h:RD C cx v d):RD C cx v (.ow k d)
 | num (n:Int) (h:inR .i64 n=true):RD C cx (.int .i64 n) .num
 | bad (v:Value):RD C cx v .bad
inductive Dle (C:Pay α):D α→D α→Prop
 | same (d:D α):Dle C d d
 | nil (p:α) (h:C.len p=0):Dle C .nilS (.pl p .any)
 | any (p:α) (k:SK):Dle C (.pl p k) (.pl p .any)
 | num (n:Int):Dle C (.int .i64 n) .num
 | bad (d:D α):Dle C d .bad
 | vac (d d':D α) (h:∀cx v,¬ RD C cx v d):Dle C d d'
 | ref (cs ds:List (D α)) (hl:cs.length=ds.length) (h:∀(j:Nat) d d',cs[j]?=some d→ds[j]?=some d'→Dle C d d'):Dle C (.ref cs) (.ref ds)
inductive DleV (C:Pay α):D α→D α→Prop
 | one {d d':D α} (h:Dle C d d'):DleV C d d'
 | agg (cs ds:List (D α)) (hl:cs.length=ds.length) (h:∀(j:Nat) d d',cs[j]?=some d→ds[j]?=some d'→Dle C d d'):DleV C (.agg cs) (.agg ds)
structure PayOk (C:Pay α):Prop where
  pos:∀p,0 < C.esz p
  bpos:∀p,0 < C.bys p
  elen:∀p i,i < C.len p→(C.elem p i).length=C.esz p
  clo:∀p i d,d∈C.elem p i→closed d=true
  emp:∀t p,C.emp t=some p→C.len p=0
  snoc:∀p cs q,C.snoc p cs=some q→C.len q=C.len p+1∧C.esz q=C.esz p∧C.bys q=C.bys p∧(∀i,i < C.len p→C.elem q i=C.elem p i) ∧
    cs.length=C.esz p∧∀(j:Nat) d d',cs[j]?=some d→(C.elem q (C.len p))[j]?=some d'→Dle C d d'
  cat:∀p q r,C.cat p q=some r→C.len r=C.len p+C.len q∧C.esz r=C.esz p∧C.bys r=C.bys p∧C.esz q=C.esz p ∧
    (∀i,i < C.len p→C.elem r i=C.elem p i)∧(∀i,i < C.len q→C.elem r (C.len p+i)=C.elem q i)
  cut:∀p a n,a+n≤C.len p→C.len (C.cut p a n)=n∧C.esz (C.cut p a n)=C.esz p∧C.bys (C.cut p a n)=C.bys p∧∀i,i < n→C.elem (C.cut p a n) i=C.elem p (a+i)
  set:∀p i cs q,i < C.len p→C.set p i cs=some q→C.len q=C.len p∧C.esz q=C.esz p∧C.bys q=C.bys p∧(∀j,j≠i→C.elem q j=C.elem p j) ∧
    cs.length=C.esz p∧∀(j:Nat) d d',cs[j]?=some d→(C.elem q i)[j]?=some d'→Dle C d d'
  bytes:∀p l,C.bytes p=some l→C.len p=l.length∧C.esz p=1∧∀i (h:i < l.length),C.elem p i=[.int .u8 l[i].toNat]
  ofBytes:∀t l p,C.ofBytes t l=some p→C.bytes p=some l∧C.bys p=1
  rep:∀t n p,C.rep t n=some p→C.len p=n∧C.esz p=1∧((C.bys p=8∧∀i,i < n→C.elem p i=[.int .i64 0])∨(C.bys p=1∧∀i,i < n→C.elem p i=[.bool false]))
  alcut:∀p a n,C.al (C.cut p a n)=C.al p
  alcat:∀p q r,C.cat p q=some r→C.al r=C.al q
  albytes:∀p l,C.bytes p=some l→C.al p=false
  memp:∀t p,C.memp t=some p→C.len p=0
  mkclo:∀p i,i < C.len p→closed (C.mkey p i)=true
  mvclo:∀p i,i < C.len p→closed (C.mval p i)=true
  mget:∀p k v b,C.mget p k=some (v,b)→(∀i,i < C.len p→shp (C.mkey p i)=shp k)∧closed v=true ∧
    (b=true→∃i,i < C.len p∧C.mkey p i=k∧C.mval p i=v)∧(b=false→(∀i,i < C.len p→C.mkey p i≠k)∧v=C.mzero p)
  mput:∀p k v q,C.mput p k v=some q→(∀i,i < C.len p→shp (C.mkey p i)=shp k)∧closed k=true ∧
    ((∃i,i < C.len p∧C.mkey p i=k∧C.len q=C.len p∧(∀j,j < C.len p→C.mkey q j=C.mkey p j∧(j≠i→C.mval q j=C.mval p j))∧DleV C v (C.mval q i)) ∨
     ((∀i,i < C.len p→C.mkey p i≠k)∧C.len q=C.len p+1∧(∀j,j < C.len p→C.mkey q j=C.mkey p j∧C.mval q j=C.mval p j)∧C.mkey q (C.len p)=k∧DleV C v (C.mval q (C.len p))))
theorem RD.le {C:Pay α} {cx:Cx α} {v:Value} {d d':D α} (h:RD C cx v d) (hl:Dle C d d'):RD C cx v d':=by
 induction hl generalizing v with
 | same=>exact h
 | bad=>exact .bad _
 | num n=>cases h with | int _ _ h=>exact .num n h
 | vac _ _ hv=>exact absurd h (hv _ _)
 | nil p h0=>cases h;exact .pl0 _ _ _ _ h0 trivial
 | any p k =>
  cases h with
  | pl0 a c _ _ hl hk=>exact .pl0 _ _ _ _ hl trivial
  | pl b off n c _ _ vs hn hc hb hk hav hcell h1 hrd=>exact .pl b off n c p .any vs hn hc hb trivial hav hcell h1 hrd
 | ref cs ds hl hle ih =>
  cases h with
  | ref b off _ vs hav hcell h1 hrd =>
   have hg:∀(i:Nat) c,ds[i]?=some c→∃c',cs[i]?=some c':=fun i c hc=>⟨cs[i]'(by rw [hl];exact (List.getElem?_eq_some_iff.1 hc).1),List.getElem?_eq_getElem _⟩
   refine .ref b off _ vs (fun hne=>hav fun e=>hne (List.eq_nil_of_length_eq_zero (by rw [←hl,e];rfl))) (fun i c hc=>?_) (fun i c hc=>?_) fun i c hc=>?_
   ·obtain ⟨c',hc'⟩:=hg i c hc
    exact hcell i c' hc'
   ·obtain ⟨c',hc'⟩:=hg i c hc
    exact h1 i c' hc'
   ·obtain ⟨c',hc'⟩:=hg i c hc
    exact ih i c' c hc' hc (hrd i c' hc')
theorem RD.leV {C:Pay α} {cx:Cx α} {v:Value} {d d':D α} (h:RD C cx v d) (hl:DleV C d d'):RD C cx v d':=by
 cases hl with
 | one hl=>exact h.le hl
 | agg cs ds hl hd =>
  cases h with
  | agg vs _ hs h1 hr =>
   refine .agg vs ds (hs.trans hl) h1 fun i v c hv hc=>?_
   have hlt:i < cs.length:=by rw [hl];exact (List.getElem?_eq_some_iff.1 hc).1
   exact (hr i v cs[i] hv (by simp [hlt])).le (hd i _ c (by simp [hlt]) hc)
structure CxLe (C:Pay α) (ns:Nat→Bool) (cx cx':Cx α):Prop where
 cell:∀(b:Nat) ob,¬ cx.av b→cx.w.heap[b]?=some ob→cx'.w.heap[b]?=some ob
 av:∀(b:Nat) ob,cx.w.heap[b]?=some ob→¬ cx.av b→¬ cx'.av b
 bx:∀o b,ns o=false→cx.bx o=some b→cx'.bx o=some b
 ar:∀o b p,ns o=false→cx.ar o=some (b,p)→∃q,cx'.ar o=some (b,q)∧C.len q=C.len p∧C.esz q=C.esz p
 size:∀(b:Nat) cells T fz,cx.w.heap[b]?=some (.cells cells T fz)→∃cells' T' fz',cx'.w.heap[b]?=some (.cells cells' T' fz')∧cells'.size=cells.size
theorem cell_some {w:World} {b off:Nat} {v:Value} (h:w.cell? ⟨b,off,none⟩=some v):∃ob,w.heap[b]?=some ob:=by
 unfold World.cell? at h
 revert h
 cases hb:w.heap[b]? with
 | none=>simp
 | some ob=>intro _;exact ⟨ob,rfl⟩
theorem cell_of_heap {w w':World} {b off:Nat} (h:w'.heap[b]?=w.heap[b]?):w'.cell? ⟨b,off,none⟩=w.cell? ⟨b,off,none⟩:=by
 unfold World.cell?;simp only;rw [h]
theorem CxLe.cells {C:Pay α} {ns:Nat→Bool} {cx cx':Cx α} (h:CxLe C ns cx cx') {b off:Nat} {v:Value} (hav:¬ cx.av b) (hc:cx.w.cell? ⟨b,off,none⟩=some v) :
  cx'.w.cell? ⟨b,off,none⟩=some v:=by
 obtain ⟨ob,hb⟩:=cell_some hc
 rw [cell_of_heap (w:=cx.w)];exact hc
 rw [hb];exact h.cell b ob hav hb
theorem killL_get (ns:Nat→Bool):∀(cs:List (D α)) (i:Nat),(killL ns cs)[i]?=(cs[i]?).map (kill ns)
 | [],i=>by simp [killL]
 | d::r,0=>by simp [killL]
 | d::r,i+1=>by simp [killL,killL_get ns r i]
theorem killL_length (ns:Nat→Bool):∀(cs:List (D α)),(killL ns cs).length=cs.length
 | []=>by simp [killL]
 | d::r=>by simp [killL,killL_length ns r]
mutual
theorem kill_closed (ns:Nat→Bool):∀(d:D α),closed d=true→kill ns d=d
 | .bool _,_ | .int _ _,_ | .str _,_ | .nilP,_ | .nilS,_ | .nilF,_ | .nilI,_ | .nilM,_ | .lit _,_ | .pl _ _,_ | .mr _,_ | .ifa,_ | .num,_ | .mref _ _,_ | .bad,_ | .obB _ _,_ | .obA _ _,_ | .obM _ _,_ | .env _ _,_=>by simp [kill]
 | .arr _,h | .ptr _ _,h | .epr _ _ _,h | .mp _,h | .gd _ _ _,h=>by simp [closed] at h
 | .agg cs,h=>by simp only [closed] at h;simp [kill,killL_closed ns cs h]
 | .tup cs,h=>by simp only [closed] at h;simp [kill,killL_closed ns cs h]
 | .ref cs,h=>by simp only [closed] at h;simp [kill,killL_closed ns cs h]
 | .fn f cs,h=>by simp only [closed] at h;simp [kill,killL_closed ns cs h]
 | .ifc t d,h=>by simp only [closed] at h;simp [kill,kill_closed ns d h]
 | .ow k d,h=>by simp only [closed] at h;simp [kill,kill_closed ns d h]
theorem killL_closed (ns:Nat→Bool):∀(cs:List (D α)),closedL cs=true→killL ns cs=cs
 | [],_=>by simp [killL]
 | d::r,h=>by
  simp only [closedL,Bool.and_eq_true] at h
  simp [killL,kill_closed ns d h.1,killL_closed ns r h.2]
end
mutual
theorem kill_none:∀(d:D α),kill (fun _=>false) d=d
 | .bool _ | .int _ _ | .str _ | .nilP | .nilS | .nilF | .nilI | .nilM | .lit _ | .pl _ _ | .mr _ | .ifa | .num | .mref _ _ | .bad | .obB _ _ | .obA _ _ | .obM _ _ | .env _ _=>by simp [kill]
 | .arr _ | .ptr _ _ | .epr _ _ _ | .mp _=>by simp [kill]
 | .gd ks t d=>by simp [kill,kill_none d]
 | .agg cs=>by simp [kill,killL_none cs]
 | .tup cs=>by simp [kill,killL_none cs]
 | .ref cs=>by simp [kill,killL_none cs]
 | .fn f cs=>by simp [kill,killL_none cs]
 | .ifc t d=>by simp [kill,kill_none d]
 | .ow k d=>by simp [kill,kill_none d]
theorem killL_none:∀(cs:List (D α)),killL (fun _=>false) cs=cs
 | []=>by simp [killL]
 | d::r=>by simp [killL,kill_none d,killL_none r]
end
theorem RD.kill {C:Pay α} (hC:PayOk C) {ns:Nat→Bool} {cx cx':Cx α} (hle:CxLe C ns cx cx') {v:Value} {d:D α} (h:RD C cx v d):RD C cx' v (kill ns d):=by
 induction h with
 | bool b=>exact .bool b
 | int k n h=>exact .int k n h
 | str s l h hl=>exact .str s l h hl
 | nilP=>exact .nilP
 | nilS=>exact .nilS
 | nilF=>exact .nilF
 | nilI=>exact .nilI
 | nilM=>exact .nilM
 | lit v=>exact .lit v
 | agg vs cs hs h1 h ih =>
  refine .agg vs _ (by rw [killL_length];exact hs) h1 fun i v c hv hc=>?_
  rw [killL_get] at hc
  obtain ⟨c',hc',rfl⟩:=Option.map_eq_some_iff.1 hc
  exact ih i v c' hv hc'
 | tup vs cs hs h ih =>
  refine .tup vs _ (by rw [killL_length];exact hs) fun i v c hv hc=>?_
  rw [killL_get] at hc
  obtain ⟨c',hc',rfl⟩:=Option.map_eq_some_iff.1 hc
  exact ih i v c' hv hc'
 | pl0 a c p k hl hk hsp=>exact .pl0 a c p k hl hk hsp
 | pl b off n c p k vs hn hc hb hk hav hcell h1 hrd hsp hal ih =>
  have hgo:∀ob,cx.w.heap[b]?=some ob→RD C cx' (.slice (some ⟨b,off,none⟩) n c) (.pl p k):=by
   intro ob hob
   refine .pl b off n c p k vs hn hc hb hk (hle.av b ob hob hav) (fun i j d hi hd=>hle.cells hav (hcell i j d hi hd)) h1 (fun i j d hi hd=>?_) ?_ ?_
   ·have:=ih i j d hi hd
    rwa [kill_closed ns d (hC.clo p i d (List.mem_of_getElem? hd))] at this
   ·cases k with
    | spare l=>exact ⟨hsp.1,hsp.2.1,hsp.2.2.1,fun i h=>hle.cells hav (hsp.2.2.2 i h)⟩
    | _=>exact True.intro
   ·intro ha
    obtain ⟨h0,cells,T,hh⟩:=hal ha
    exact ⟨h0,cells,T,hle.cell b _ hav hh⟩
  by_cases h0:0 < n
  case neg =>
   have:n=0:=by omega
   subst this
   cases hs':isSp k with
   | false=>exact .pl0 _ _ _ _ hn.symm hk hs'
   | true =>
    unfold isSp at hs'
    split at hs'
    ·rename_i x r
     obtain ⟨ob,hob⟩:=cell_some (hsp.2.2.2 0 (by simp))
     exact hgo ob hob
    ·simp at hs'
  have hel:0 < (C.elem p 0).length:=by rw [hC.elen p 0 (by omega)];exact hC.pos p
  have h00:=hcell 0 0 (C.elem p 0)[0] h0 (by simp [hel])
  obtain ⟨ob,hob⟩:=cell_some h00
  exact hgo ob hob
 | arrO o b p n c ho hn hc hsz =>
  simp only [Eng.kill]
  cases hns:ns o with
  | true=>exact .bad _
  | false =>
   obtain ⟨cells,T,fz,hh,hs⟩:=hsz
   obtain ⟨cells',T',fz',hh',hs'⟩:=hle.size b cells T fz hh
   obtain ⟨q,hq,hl,hz⟩:=hle.ar o _ _ hns ho
   exact .arrO o b q n c hq (by omega) hc ⟨cells',T',fz',hh',by rw [hz];omega⟩
 | arrN o p a ho hn =>
  simp only [Eng.kill]
  cases hns:ns o with
  | true=>exact .bad _
  | false =>
   obtain ⟨q,hq,hl,hz⟩:=hle.ar o _ _ hns ho
   exact .arrN o q a hq (by omega)
 | ptr o off b ho =>
  simp only [Eng.kill]
  cases hns:ns o with
  | true=>exact .bad _
  | false=>exact .ptr o off b (hle.bx o _ hns ho)
 | epr o i off b p ho hi =>
  simp only [Eng.kill]
  cases hns:ns o with
  | true=>exact .bad _
  | false =>
   obtain ⟨q,hq,hl,hz⟩:=hle.ar o _ _ hns ho
   show RD C cx' (.pointer (some ⟨b,i * C.esz p+off,none⟩)) (.epr o i off)
   rw [←hz]
   exact .epr o i off b q hq (by omega)
 | mp o b ho =>
  simp only [Eng.kill]
  cases hns:ns o with
  | true=>exact .bad _
  | false=>exact .mp o b (hle.bx o _ hns ho)
 | mr b clock es p hav hh hs hd hk hv ihk ihv =>
  have hlt:∀(i:Nat) e,es[i]?=some e→i < C.len p:=by
   intro i e he
   rw [←hs.size]
   rcases Nat.lt_or_ge i es.size with h | h
   ·exact h
   ·simp [Array.getElem?_eq_none h] at he
  refine .mr b clock es p (hle.av b _ hh hav) (hle.cell b _ hav hh) hs hd (fun i e he=>?_) fun i e he=>?_
  ·have:=ihk i e he
   rwa [kill_closed ns _ (hC.mkclo p i (hlt i e he))] at this
  ·have:=ihv i e he
   rwa [kill_closed ns _ (hC.mvclo p i (hlt i e he))] at this
 | ref b off cs vs hav hcell h1 hrd ih =>
  cases hcs:cs with
  | nil =>
   simp only [Eng.kill,killL]
   exact .ref b off [] vs (by simp) (by simp) (by simp) (by simp)
  | cons c0 r =>
   have h00:=hcell 0 c0 (by simp [hcs])
   obtain ⟨ob,hob⟩:=cell_some h00
   subst hcs
   refine .ref b off _ vs (fun _=>hle.av b ob hob (hav (by simp))) (fun i c hc=>?_) (fun i c hc=>?_) fun i c hc=>?_
   all_goals
    rw [killL_get] at hc
    obtain ⟨c',hc',rfl⟩:=Option.map_eq_some_iff.1 hc
   ·exact hle.cells (hav (by simp)) (hcell i c' hc')
   ·exact h1 i c' hc'
   ·exact ih i c' hc'
 | fn f f' a b vs cs hs h hm ih =>
  refine .fn f f' a b vs _ (by rw [killL_length];exact hs) (fun i v c hv hc=>?_) hm
  rw [killL_get] at hc
  obtain ⟨c',hc',rfl⟩:=Option.map_eq_some_iff.1 hc
  exact ih i v c' hv hc'
 | ifc t v d h ih=>exact .ifc t v _ ih
 | ifa t v=>exact .ifa t v
 | num n h=>exact .num n h
 | mrefN cs=>exact .mrefN cs
 | mrefS v cs hc h ih =>
  refine .mrefS v cs hc ?_
  simpa only [Eng.kill,killL_closed ns cs hc] using ih
 | ow k v d h ih=>exact .ow k v _ ih
 | bad v=>exact .bad v
end Go.Eng
namespace Go.Eng
open Go.RowKit
variable {α:Type}
structure Gh where
 w0:World
 av0:Nat→Prop
 rho:Nat→Option Nat
 lent:Nat→Prop
 top:Nat→Option Nat
structure BelowD (δ:Bool) (B:Nat) (w w':World):Prop where
 os:w'.os=w.os
 tape:w'.tape=w.tape
 output:w'.output=w.output
 size:w.heap.size≤w'.heap.size
 block:∀k,k < B→w'.heap[k]?=w.heap[k]?
 drawn:δ=true→w.drawn≤w'.drawn
theorem BelowD.toB {δ:Bool} {B:Nat} {w w':World} (h:BelowD δ B w w'):RowKit.Below B w w':=⟨h.os,h.tape,h.output,h.size,h.block⟩
theorem BelowD.ofB {δ:Bool} {B:Nat} {w w':World} (h:RowKit.Below B w w') (hd:δ=true→w.drawn≤w'.drawn):BelowD δ B w w':=⟨h.os,h.tape,h.output,h.size,h.block,hd⟩
theorem BelowD.refl {δ:Bool} (B:Nat) (w:World):BelowD δ B w w:=.ofB (.refl B w) fun _=>Nat.le_refl _
theorem BelowD.trans {δ:Bool} {B:Nat} {a b c:World} (h:BelowD δ B a b) (k:BelowD δ B b c):BelowD δ B a c:=.ofB (h.toB.trans k.toB) fun hd=>Nat.le_trans (h.drawn hd) (k.drawn hd)
theorem BelowD.mono {δ:Bool} {B B':Nat} {w w':World} (h:BelowD δ B w w') (hB:B'≤B):BelowD δ B' w w':=.ofB (h.toB.mono hB) h.drawn
theorem BelowD.drew {δ:Bool} {B:Nat} {a w:World} (h:BelowD δ B a w):BelowD δ B a w.drew:=.ofB h.toB.drew fun hd=>Nat.le_trans (h.drawn hd) (Nat.le_succ _)
theorem BelowD.alloc {δ:Bool} {B:Nat} {a w:World} (h:BelowD δ B a w) (hB:B≤w.heap.size) (o:Obj):BelowD δ B a (w.alloc o):=.ofB (h.toB.alloc hB o) h.drawn
theorem BelowD.frame {δ:Bool} {W w':World} (h:BelowD δ W.heap.size W w') (may:MemPlace→Prop):W.keptBut w' may:=h.toB.frame may
theorem BelowD.same {δ:Bool} {W w':World} (h:BelowD δ W.heap.size W w') {p:MemPlace} (hp:p.block < W.heap.size):W.sameAt w' p:=h.toB.same hp
structure BelowL (δ:Bool) (B:Nat) (L:Nat→Prop) (w w':World):Prop where
 os:w'.os=w.os
 tape:w'.tape=w.tape
 output:w'.output=w.output
 size:w.heap.size≤w'.heap.size
 block:∀k,k < B→¬ L k→w'.heap[k]?=w.heap[k]?
 row:∀(k:Nat) cells T fz,k < B→w.heap[k]?=some (.cells cells T fz)→∃cells' T' fz',w'.heap[k]?=some (.cells cells' T' fz')∧cells'.size=cells.size
 drawn:δ=true→w.drawn≤w'.drawn
theorem BelowL.trans {δ:Bool} {B:Nat} {L:Nat→Prop} {a b c:World} (h:BelowL δ B L a b) (k:BelowL δ B L b c):BelowL δ B L a c :=
 ⟨k.os.trans h.os,k.tape.trans h.tape,k.output.trans h.output,Nat.le_trans h.size k.size,fun i hi hL=>(k.block i hi hL).trans (h.block i hi hL),fun i cells T fz hi hc=>by
  obtain ⟨c1,T1,f1,h1,h2⟩:=h.row i cells T fz hi hc
  obtain ⟨c2,T2,f2,h3,h4⟩:=k.row i c1 T1 f1 hi h1
  exact ⟨c2,T2,f2,h3,h4.trans h2⟩,fun hd=>Nat.le_trans (h.drawn hd) (k.drawn hd)⟩
theorem toL {δ:Bool} {B:Nat} {L:Nat→Prop} {w w':World} (h:BelowD δ B w w'):BelowL δ B L w w' :=
 ⟨h.os,h.tape,h.output,h.size,fun k hk _=>h.block k hk,fun k cells T fz hk hc=>⟨cells,T,fz,by rw [h.block k hk];exact hc,rfl⟩,h.drawn⟩
theorem BelowL.none {δ:Bool} {B:Nat} {w w':World} (h:BelowL δ B (fun _=>False) w w'):BelowD δ B w w':=⟨h.os,h.tape,h.output,h.size,fun k hk=>h.block k hk (fun h=>h),h.drawn⟩
def Ob.fz:Ob α→Bool
 | .box f _=>f
 | .arr f _=>f
 | .map f _=>f
def cxOf (g:Gh) (hs:Obs α) (w:World):Cx α where
 w:=w
 av:=fun b=>g.av0 b∨∃o ob,look hs o=some ob∧ob.fz=false∧g.rho o=some b
 bx:=fun o=>match look hs o with | some (.box _ _)=>g.rho o | some (.map _ _)=>g.rho o | _=>none
 ar:=fun o=>match look hs o with | some (.arr _ p)=>some (g.rho o,p) | _=>none
def cx0 (w:World) (av:Nat→Prop):Cx α where
 w:=w
 av:=av
 bx:=fun _=>none
 ar:=fun _=>none
def ObRel (C:Pay α) (cx:Cx α) (b:Option Nat):Ob α→Prop
 | .box _ cs=>∃b' cells T,b=some b'∧cx.w.heap[b']?=some (.cells cells T (0,0))∧cells.size=cs.length ∧
   (∀(i:Nat) v,cells[i]?=some v→v.oneCell'=true)∧∀(i:Nat) v c,cells[i]?=some v→cs[i]?=some c→RD C cx v c
 | .arr _ p=>match b with
  | none=>C.len p=0
  | some b'=>∃cells T,cx.w.heap[b']?=some (.cells cells T (0,0))∧C.len p * C.esz p≤cells.size∧C.len p * C.bys p≤big ∧
   (∀(i:Nat) v,cells[i]?=some v→v.oneCell'=true) ∧
   ∀(i j:Nat) v d,i < C.len p→cells[i * C.esz p+j]?=some v→(C.elem p i)[j]?=some d→RD C cx v d
 | .map _ p=>∃b' es clock,b=some b'∧cx.w.heap[b']?=some (.map es clock)∧Szd es clock (C.len p) ∧
   (∀i j,i < C.len p→j < C.len p→C.mkey p i=C.mkey p j→i=j) ∧
   (∀(i:Nat) e,es[i]?=some e→RD C cx e.key (C.mkey p i))∧∀(i:Nat) e,es[i]?=some e→RD C cx e.val (C.mval p i)
def holds (tmps:Array Value) (ks:List (Nat×Bool)):Prop:=∀k∈ks,tmps[k.1]?=some (.bool k.2)
def RG (C:Pay α) (cx:Cx α) (tmps:Array Value) (v:Value):D α→Prop
 | .gd ks t d=>(holds tmps ks→t=true∧RD C cx v d)∧(¬ holds tmps ks→t=false∧v=undef)
 | d=>RD C cx v d
def GSz (w:World) (i n:Nat):Prop:=∃cells T fz,w.heap[i]?=some (.cells cells T fz)∧cells.size=n
structure Sim (X:Ctx α) (g:Gh) (tm:List (D α)) (hs:Obs α) (a:Act) (w:World):Prop where
 size:a.tmps.size=tm.length
 tm:∀t,RG X.C (cxOf g hs w) a.tmps (a.tmps.getD t undef) (getT tm t)
 dfr:a.defers=[]
 obs:∀o ob,look hs o=some ob→ObRel X.C (cxOf g hs w) (g.rho o) ob
 inj:∀o o' ob ob' b,look hs o=some ob→look hs o'=some ob'→g.rho o=some b→g.rho o'=some b→o=o'
 own:∀o ob b,look hs o=some ob→g.rho o=some b→(g.w0.heap.size≤b∨g.lent b)∧b < w.heap.size
 below:BelowL X.C.dr g.w0.heap.size g.lent g.w0 w
 av0:∀b,g.av0 b→b < g.w0.heap.size
 lav:∀b,g.lent b→b < g.w0.heap.size∧¬ g.av0 b
 top:∀c b,g.top c=some b→Nat.blt c 50000=false∧Nat.blt c 100000=true∧∀ob,look hs c=some ob→g.rho c=some b∧∀f p,ob≠.arr f p
 glob:∀i cs,X.glob i=some cs→RD X.C (cx0 g.w0 (fun b=>g.av0 b∨g.lent b)) (.pointer (some ⟨i,0,none⟩)) (.ref cs)∧GSz g.w0 i cs.length
theorem Sim.not0 {X:Ctx α} {g:Gh} {tm:List (D α)} {hs:Obs α} {a:Act} {w:World} (h:Sim X g tm hs a w) {o:Nat} {ob:Ob α} {b:Nat} (ho:look hs o=some ob) (hr:g.rho o=some b) (h0:g.av0 b):False:=by
 have h1:=h.av0 b h0
 rcases (h.own o ob b ho hr).1 with h2 | h2
 ·omega
 ·exact (h.lav b h2).2 h0
theorem RG.kill {C:Pay α} (hC:PayOk C) {ns:Nat→Bool} {cx cx':Cx α} (hle:CxLe C ns cx cx') {tmps:Array Value} {v:Value} {d:D α} (h:RG C cx tmps v d) :
  RG C cx' tmps v (kill ns d):=by
 cases d
 case gd ks t d=>exact ⟨fun hk=>⟨(h.1 hk).1,RD.kill hC hle (h.1 hk).2⟩,h.2⟩
 case arr o=>have:=RD.kill hC hle (show RD C cx v _ from h);simp only [Eng.kill] at this ⊢;revert this;cases ns o<;>exact id
 case ptr o f=>have:=RD.kill hC hle (show RD C cx v _ from h);simp only [Eng.kill] at this ⊢;revert this;cases ns o<;>exact id
 case epr o i f=>have:=RD.kill hC hle (show RD C cx v _ from h);simp only [Eng.kill] at this ⊢;revert this;cases ns o<;>exact id
 case mp o=>have:=RD.kill hC hle (show RD C cx v _ from h);simp only [Eng.kill] at this ⊢;revert this;cases ns o<;>exact id
 all_goals exact RD.kill hC hle h
theorem RD.grow {C:Pay α} (hC:PayOk C) {cx cx':Cx α} (hle:CxLe C (fun _=>false) cx cx') {v:Value} {d:D α} (h:RD C cx v d):RD C cx' v d:=by
 have:=RD.kill hC hle h
 rwa [kill_none] at this
theorem RD.closedTo {C:Pay α} (hC:PayOk C) {cx cx':Cx α} (hle:CxLe C (fun _=>true) cx cx') {v:Value} {d:D α} (hd:closed d=true) (h:RD C cx v d):RD C cx' v d:=by
 have:=RD.kill hC hle h
 rwa [kill_closed _ d hd] at this
theorem getT_set (tm:List (D α)) (i t:Nat) (x:D α):getT (setT tm i x) t=if i=t∧t < tm.length then x else getT tm t:=by
 induction tm generalizing i t with
 | nil=>simp [setT,getT]
 | cons d r ih =>
  cases i with
  | zero=>cases t<;>simp [setT,getT]
  | succ i =>
   cases t with
   | zero=>simp [setT,getT]
   | succ t=>simp [setT,getT,ih]
theorem setT_length (tm:List (D α)) (i:Nat) (x:D α):(setT tm i x).length=tm.length:=by
 induction tm generalizing i with
 | nil=>simp [setT]
 | cons d r ih=>cases i<;>simp [setT,ih]
theorem getT_map (f:D α→D α) (hf:f .bad=.bad) (tm:List (D α)) (t:Nat):getT (tm.map f) t=f (getT tm t):=by
 induction tm generalizing t with
 | nil=>simp [getT,hf]
 | cons d r ih=>cases t<;>simp [getT,ih]
theorem getT_out (tm:List (D α)) (t:Nat) (h:tm.length≤t):getT tm t=.bad:=by
 induction tm generalizing t with
 | nil=>rfl
 | cons d r ih =>
  cases t with
  | zero=>simp at h
  | succ t=>simp [getT];exact ih t (by simpa using h)
theorem cxLe_grow (C:Pay α) {g:Gh} {hs:Obs α} {w w':World} (h:BelowD C.dr w.heap.size w w') (_hown:∀o ob b,look hs o=some ob→g.rho o=some b→b < w.heap.size) :
  CxLe C (fun _=>false) (cxOf g hs w) (cxOf g hs w') where
 cell:=fun b ob _ hb=>by
  have hlt:b < w.heap.size:=by
   rcases Nat.lt_or_ge b w.heap.size with h | h
   ·exact h
   ·simp [cxOf,Array.getElem?_eq_none h] at hb
  simp only [cxOf] at hb ⊢
  rw [h.block b hlt];exact hb
 av:=fun b ob _ hav=>hav
 bx:=fun o b _ h=>h
 ar:=fun o b p _ h=>⟨p,h,rfl,rfl⟩
 size:=fun b cells T fz hb=>by
  have hlt:b < w.heap.size:=by
   rcases Nat.lt_or_ge b w.heap.size with h | h
   ·exact h
   ·simp [cxOf,Array.getElem?_eq_none h] at hb
  simp only [cxOf] at hb ⊢
  rw [h.block b hlt];exact ⟨cells,T,fz,hb,rfl⟩
theorem lt_of_heap {w:World} {b:Nat} {ob:Obj} (h:w.heap[b]?=some ob):b < w.heap.size:=by
 rcases Nat.lt_or_ge b w.heap.size with h' | h'
 ·exact h'
 ·simp [Array.getElem?_eq_none h'] at h
theorem ObRel.grow {C:Pay α} (hC:PayOk C) {ns:Nat→Bool} {cx cx':Cx α} (hle:CxLe C ns cx cx') {b:Option Nat} {ob:Ob α}
  (hh:∀b' ob',b=some b'→cx.w.heap[b']?=some ob'→cx'.w.heap[b']?=some ob') (h:ObRel C cx b ob):ObRel C cx' b (killOb ns ob):=by
 cases ob with
 | box fz cs =>
  obtain ⟨b',cells,T,rfl,hb,hs,h1,hr⟩:=h
  refine ⟨b',cells,T,rfl,hh b' _ rfl hb,by rw [killL_length];exact hs,h1,fun i v c hv hc=>?_⟩
  rw [killL_get] at hc
  obtain ⟨c',hc',rfl⟩:=Option.map_eq_some_iff.1 hc
  exact RD.kill hC hle (hr i v c' hv hc')
 | arr fz p =>
  cases b with
  | none=>exact h
  | some b' =>
   obtain ⟨cells,T,hb,hs,hbg,h1,hr⟩:=h
   refine ⟨cells,T,hh b' _ rfl hb,hs,hbg,h1,fun i j v d hi hv hd=>?_⟩
   have:=RD.kill hC hle (hr i j v d hi hv hd)
   rwa [kill_closed ns d (hC.clo p i d (List.mem_of_getElem? hd))] at this
 | map fz p =>
  obtain ⟨b',es,clock,rfl,hb,hs,hd,hk,hv⟩:=h
  have hlt:∀(i:Nat) e,es[i]?=some e→i < C.len p:=by
   intro i e he
   rw [←hs.size]
   rcases Nat.lt_or_ge i es.size with h | h
   ·exact h
   ·simp [Array.getElem?_eq_none h] at he
  refine ⟨b',es,clock,rfl,hh b' _ rfl hb,hs,hd,fun i e he=>?_,fun i e he=>?_⟩
  ·have:=RD.kill hC hle (hk i e he)
   rwa [kill_closed ns _ (hC.mkclo p i (hlt i e he))] at this
  ·have:=RD.kill hC hle (hv i e he)
   rwa [kill_closed ns _ (hC.mvclo p i (hlt i e he))] at this
theorem killOb_none (ob:Ob α):killOb (fun _=>false) ob=ob:=by
 cases ob<;>simp [killOb,killL_none]
theorem Sim.grow {X:Ctx α} (hC:PayOk X.C) {g:Gh} {tm:List (D α)} {hs:Obs α} {a:Act} {w w':World} (h:Sim X g tm hs a w) (hb:BelowD X.C.dr w.heap.size w w') :
  Sim X g tm hs a w':=by
 have hle:=cxLe_grow X.C (g:=g) (hs:=hs) hb (fun o ob b ho hr=>(h.own o ob b ho hr).2)
 refine ⟨h.size,fun t=>?_,h.dfr,fun o ob ho=>?_,h.inj,fun o ob b ho hr=>?_,?_,h.av0,h.lav,h.top,h.glob⟩
 ·have:=RG.kill hC hle (h.tm t)
  rwa [kill_none] at this
 ·have:=ObRel.grow hC hle (b:=g.rho o) (fun b' ob' hr hb'=>by
   show w'.heap[b']?=_
   rw [hb.block b' (h.own o ob b' ho hr).2];exact hb') (h.obs o ob ho)
  rwa [killOb_none] at this
 ·have:=h.own o ob b ho hr
  exact ⟨this.1,Nat.lt_of_lt_of_le this.2 hb.size⟩
 ·exact h.below.trans (toL (hb.mono (by have:=h.below.size;omega)))
theorem holds_all {tmps:Array Value} {ks ks':List (Nat×Bool)} (h:holds tmps ks) (hs:ks'.all (memK ks)=true):holds tmps ks':=by
 intro k hk
 have h1:=List.all_eq_true.1 hs k hk
 have h2:∀l:List (Nat×Bool),memK l k=true→k∈l:=by
  intro l
  induction l with
  | nil=>simp [memK]
  | cons x r ih =>
   obtain ⟨a,b⟩:=x
   simp only [memK,Bool.or_eq_true,Bool.and_eq_true,beq_iff_eq]
   rintro (⟨h1,rfl⟩ | h)
   ·obtain rfl:=Nat.eq_of_beq_eq_true h1
    exact List.mem_cons_self
   ·exact List.mem_cons_of_mem _ (ih h)
 exact h k (h2 ks h1)
theorem RG.strip {C:Pay α} {cx:Cx α} {tmps:Array Value} {v:Value} {d:D α} {ks:List (Nat×Bool)} (hk:holds tmps ks) (h:RG C cx tmps v d) :
  RD C cx v (strip ks d):=by
 cases d
 case gd ks' t d =>
  simp only [Eng.strip]
  cases hs:ks'.all (memK ks) with
  | true=>exact (h.1 (holds_all hk hs)).2
  | false=>exact .bad _
 all_goals exact h
theorem inR_of {k:IntKind} {n:Int} (h:inR k n=true):lo k≤n∧n≤hi k:=by
 simpa [inR] using h
theorem ofV1_sound (C:Pay α) (cx:Cx α) (v:Value):RD C cx v (ofV1 v):=by
 unfold ofV1
 split
 ·exact .bool _
 ·cases h:inR _ _ with
  | true=>exact .int _ _ h
  | false=>exact .bad _
 ·cases h:Nat.ble _ _ with
  | true=>exact .str _ _ rfl (Nat.le_of_ble_eq_true h)
  | false=>exact .bad _
 ·exact .nilP
 ·exact .nilS
 ·exact .nilF
 ·exact .nilI
 ·exact .nilM
 ·exact .bad _
theorem ofV_sound (C:Pay α) (cx:Cx α) (v:Value):RD C cx v (ofV v):=by
 unfold ofV
 split
 ·rename_i cs
  cases hv:cs.toList.all Value.oneCell' with
  | false=>exact .bad _
  | true =>
  refine .agg _ _ (by simp) (fun i v h=>?_) (fun i v c h hc=>?_)
  ·simp only [List.all_eq_true] at hv
   exact hv v (Array.mem_toList_iff.2 (Array.mem_of_getElem? h))
  ·simp only [List.getElem?_map,Array.getElem?_toList,h,Option.map_some,Option.some.injEq] at hc
   subst hc
   exact ofV1_sound C cx v
 ·exact ofV1_sound C cx _
end Go.Eng
