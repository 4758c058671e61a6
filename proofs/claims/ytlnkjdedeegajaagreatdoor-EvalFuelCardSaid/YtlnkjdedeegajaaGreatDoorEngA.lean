/-
  THE ENGINE, PART A: DEFINITIONS. An abstract interpreter over the model's own code: values as data, no addresses of what is never written.
  'D': data; 'Pay': typed lists that a slice reads as; 'evalOp': one operation; 'exec': code, in continuation form; 'fnD': a function's body.
-/
import Derived.WalkKit
import Derived.Maps.Keyed
namespace Go.Eng
inductive SK where
  | any
  | full
  | nil (b:Bool)
  | spare (l:List UInt8)
def isSp:SK→Bool
  | .spare (_::_)=>true
  | _=>false
inductive D (α:Type) where
  | bool (b:Bool)
  | int (k:IntKind) (n:Int)
  | str (l:List UInt8)
  | nilP
  | nilS
  | nilF
  | nilI
  | nilM
  | lit (v:Value)
  | agg (cs:List (D α))
  | tup (ds:List (D α))
  | pl (p:α) (k:SK)
  | arr (o:Nat)
  | ptr (o off:Nat)
  | epr (o i off:Nat)
  | mp (o:Nat)
  | mr (p:α)
  | ref (cs:List (D α))
  | fn (f:FuncId) (caps:List (D α))
  | ifc (t:TypeId) (d:D α)
  | ifa
  | mref (b:Bool) (cs:List (D α))
  | gd (ks:List (Nat×Bool)) (t:Bool) (d:D α)
  | ow (k:List Nat) (d:D α)
  | bad
  | obB (n:Nat) (cs:List (D α))
  | obA (n:Nat) (p:α)
  | obM (n:Nat) (p:α)
  | env (os:List (D α)) (d:D α)
inductive KC where
  | b
  | i (k:IntKind)
  | s
  deriving DecidableEq
def shp1 {α:Type}:D α→Option KC
  | .bool _=>some .b
  | .int k _=>some (.i k)
  | .str _=>some .s
  | _=>none
def shpL {α:Type}:List (D α)→Option (List KC)
  | []=>some []
  | d::r=>match shp1 d,shpL r with
    | some k,some l=>some (k::l)
    | _,_=>none
def shp {α:Type}:D α→Option (Bool×List KC)
  | .agg cs=>match shpL cs with
    | some l=>some (true,l)
    | none=>none
  | d=>match shp1 d with
    | some k=>some (false,[k])
    | none=>none
structure Pay (α:Type) where
  dr:Bool:=false
  esz:α→Nat
  bys:α→Nat
  len:α→Nat
  elem:α→Nat→List (D α)
  emp:TypeId→Option α
  snoc:α→List (D α)→Option α
  cat:α→α→Option α
  cut:α→Nat→Nat→α
  set:α→Nat→List (D α)→Option α
  rep:TypeId→Nat→Option α
  bytes:α→Option (List UInt8)
  ofBytes:TypeId→List UInt8→Option α
  memp:TypeId→Option α
  mkey:α→Nat→D α
  mval:α→Nat→D α
  mzero:α→D α
  mget:α→D α→Option (D α×Bool)
  mput:α→D α→D α→Option α
inductive Ob (α:Type) where
  | box (fz:Bool) (cs:List (D α))
  | arr (fz:Bool) (p:α)
  | map (fz:Bool) (p:α)
abbrev Obs (α:Type):=List (Nat×Ob α)
def look {α:Type}:Obs α→Nat→Option (Ob α)
  | [],_=>none
  | (n,x)::r,o=>bif Nat.beq n o then some x else look r o
def drop {α:Type}:Obs α→Nat→Obs α
  | [],_=>[]
  | (n,x)::r,o=>bif Nat.beq n o then drop r o else (n,x)::drop r o
def upd {α:Type}:Obs α→Nat→Ob α→Obs α
  | [],_,_=>[]
  | (n,x)::r,o,y=>bif Nat.beq n o then (n,y)::r else (n,x)::upd r o y
structure Ctx (α:Type) where
  P:Program
  C:Pay α
  R:FuncId→List (D α)→Option (Bool×D α)
  glob:Nat→Option (List (D α))
  plainT:TypeId→Bool
  N:Nat
  own:Bool:=false
  noM:Bool:=true
  isM:FuncId→Bool:=fun _=>false
def lo:IntKind→Int
  | .i8=>-128 | .i16=>-32768 | .i32=>-2147483648 | .i64=>-9223372036854775808
  | _=>0
def hi:IntKind→Int
  | .i8=>127 | .i16=>32767 | .i32=>2147483647 | .i64=>9223372036854775807
  | .u8=>255 | .u16=>65535 | .u32=>4294967295 | .u64=>18446744073709551615
def inR (k:IntKind) (n:Int):Bool:=decide (lo k≤n)&&decide (n≤hi k)
def big:Nat:=140737488355328
section
variable {α:Type}
def cellsD:D α→List (D α)
  | .agg cs=>cs
  | d=>[d]
def isOne:D α→Bool
  | .agg _ | .tup _ | .gd _ _ _ | .bad | .lit _ | .ow _ _=>false
  | _=>true
def getT:List (D α)→Nat→D α
  | [],_=>.bad
  | d::_,0=>d
  | _::r,n+1=>getT r n
def setT:List (D α)→Nat→D α→List (D α)
  | [],_,_=>[]
  | _::r,0,x=>x::r
  | d::r,n+1,x=>d::setT r n x
def putT (tm:List (D α)) (dst:Option Nat) (x:D α):List (D α) :=
  match dst with
  | some d=>setT tm d x
  | none=>tm
def memK:List (Nat×Bool)→Nat×Bool→Bool
  | [],_=>false
  | (a,b)::r,k=>(Nat.beq a k.1&&(b==k.2))||memK r k
def strip (ks:List (Nat×Bool)):D α→D α
  | .gd ks' _ d=>bif ks'.all (memK ks) then d else .bad
  | d=>d
mutual
def kill (ns:Nat→Bool):D α→D α
  | .arr o=>bif ns o then .bad else .arr o
  | .ptr o off=>bif ns o then .bad else .ptr o off
  | .epr o i off=>bif ns o then .bad else .epr o i off
  | .mp o=>bif ns o then .bad else .mp o
  | .agg cs=>.agg (killL ns cs)
  | .tup cs=>.tup (killL ns cs)
  | .ref cs=>.ref (killL ns cs)
  | .fn f cs=>.fn f (killL ns cs)
  | .ifc t d=>.ifc t (kill ns d)
  | .gd ks t d=>.gd ks t (kill ns d)
  | .ow k d=>.ow k (kill ns d)
  | d=>d
def killL (ns:Nat→Bool):List (D α)→List (D α)
  | []=>[]
  | d::r=>kill ns d::killL ns r
end
def killOb (ns:Nat→Bool):Ob α→Ob α
  | .box fz cs=>.box fz (killL ns cs)
  | x=>x
def killH (ns:Nat→Bool):Obs α→Obs α
  | []=>[]
  | (n,x)::r=>(n,killOb ns x)::killH ns r
mutual
def closed:D α→Bool
  | .arr _ | .ptr _ _ | .epr _ _ _ | .mp _ | .gd _ _ _=>false
  | .agg cs | .tup cs | .ref cs | .fn _ cs=>closedL cs
  | .ifc _ d=>closed d
  | .ow _ d=>closed d
  | _=>true
def closedL:List (D α)→Bool
  | []=>true
  | d::r=>closed d&&closedL r
end
mutual
def flat:D α→Bool
  | .bool _ | .int _ _ | .str _ | .nilP | .nilS | .nilF | .nilI | .nilM | .lit _=>true
  | .agg cs | .tup cs=>flatL cs
  | _=>false
def flatL:List (D α)→Bool
  | []=>true
  | d::r=>flat d&&flatL r
end
def lend (C:Pay α) (hs:Obs α):Nat→D α→Option (D α×List Nat)
  | 0,_=>none
  | _+1,.arr o=>match look hs o with
    | some (.arr _ p)=>some (.pl p .any,[o])
    | _=>none
  | n+1,.ptr o off=>match look hs o with
    | some (.box _ cs)=>match lendL C hs n (cs.drop off) with
      | some (l,ns)=>some (.ref l,o::ns)
      | none=>none
    | _=>none
  | _+1,.epr o i off=>match look hs o with
    | some (.arr _ p)=>some (.ref ((C.elem p i).drop off),[o])
    | _=>none
  | _+1,.mp o=>match look hs o with
    | some (.map _ p)=>some (.mr p,[o])
    | _=>none
  | n+1,.agg cs=>match lendL C hs n cs with
    | some (l,ns)=>some (.agg l,ns)
    | none=>none
  | n+1,.tup cs=>match lendL C hs n cs with
    | some (l,ns)=>some (.tup l,ns)
    | none=>none
  | n+1,.ref cs=>match lendL C hs n cs with
    | some (l,ns)=>some (.ref l,ns)
    | none=>none
  | n+1,.fn f cs=>match lendL C hs n cs with
    | some (l,ns)=>some (.fn f l,ns)
    | none=>none
  | n+1,.ifc t d=>match lend C hs n d with
    | some (x,ns)=>some (.ifc t x,ns)
    | none=>none
  | _+1,.gd _ _ _=>none
  | _+1,.ow _ _=>none
  | _+1,d=>some (d,[])
where
  lendL (C:Pay α) (hs:Obs α):Nat→List (D α)→Option (List (D α)×List Nat)
    | _,[]=>some ([],[])
    | 0,_::_=>none
    | n+1,d::r=>match lend C hs n d,lendL C hs n r with
      | some (x,ns),some (l,ms)=>some (x::l,ns++ms)
      | _,_=>none
def nsOf (o dst:Nat):Nat→Bool:=fun k=>Nat.beq k o||Nat.beq k dst
def rebind (o dst:Nat) (ob:Ob α) (hs:Obs α):Obs α:=(dst,ob)::killH (nsOf o dst) (drop (drop hs o) dst)
def freezeOb:Ob α→Ob α
  | .box _ cs=>.box true cs
  | .arr _ p=>.arr true p
  | .map _ p=>.map true p
def freeze:Obs α→List Nat→Obs α
  | hs,[]=>hs
  | hs,n::r=>match look hs n with
    | some x=>freeze (upd hs n (freezeOb x)) r
    | none=>freeze hs r
def ofV1:Value→D α
  | .bool b=>.bool b
  | .int k n=>bif inR k n then .int k n else .bad
  | .string s=>bif Nat.ble s.data.toList.length big then .str s.data.toList else .bad
  | .pointer none=>.nilP
  | .slice none 0 0=>.nilS
  | .nilFunc=>.nilF
  | .nilIface=>.nilI
  | .map none=>.nilM
  | _=>.bad
def ofV:Value→D α
  | .agg cs=>bif cs.toList.all Value.oneCell' then .agg (cs.toList.map ofV1) else .bad
  | v=>ofV1 v
structure Res (α:Type) where
  ok:Bool
  d:D α
  ch:Option (List (D α)×Obs α)
def Res.v (d:D α):Res α:=⟨true,d,none⟩
def Res.no:Res α:=⟨false,.bad,none⟩
def Res.if (b:Bool) (d:D α):Res α:=⟨b,d,none⟩
def Res.o:Option (D α)→Res α
  | some d=>.v d
  | none=>.no
def szO (P:Program) (t:TypeId):Option Nat:=(P.info? t).map (·.size)
def bysO (P:Program) (t:TypeId):Option Nat:=(P.info? t).map (·.bytes)
def shapeT (P:Program) (t:TypeId):Nat :=
  match P.underlying t with
  | some (.struct _) | some (.array _ _)=>2
  | some _=>1
  | none=>0
def partD (P:Program) (t:TypeId) (cs:List (D α)) (off:Nat):Option (D α) :=
  match shapeT P t,szO P t with
  | 2,some n=>some (.agg ((cs.drop off).take n))
  | 1,_=>cs[off]?
  | _,_=>none
def loadD (P:Program) (t:TypeId) (cs:List (D α)) (off:Nat):Option (D α) :=
  match shapeT P t,szO P t with
  | 2,some n=>bif Nat.ble (off+n) cs.length then some (.agg ((cs.drop off).take n)) else none
  | 1,_=>cs[off]?
  | _,_=>none
def overL:List (D α)→Nat→List (D α)→List (D α)
  | cs,_,[]=>cs
  | cs,i,x::r=>overL (setT cs i x) (i+1) r
def goodCells (cs:List (D α)):Bool:=cs.all isOne
def storeCellsD (P:Program) (t:TypeId) (d:D α):Option (List (D α)) :=
  match shapeT P t,szO P t,d with
  | 2,some n,.agg cs=>bif Nat.beq cs.length n then some cs else none
  | 1,some 1,_=>bif isOne d then some [d] else none
  | _,_,_=>none
def zeroD (P:Program) (t:TypeId):Option (D α) :=
  match (P.info? t).bind (·.zero) with
  | some v=>some (ofV v)
  | none=>none
def bitsE (op:BinOp) (k:IntKind) (x y:Int):Int :=
  let a:=BitVec.ofInt k.bits x
  let b:=BitVec.ofInt k.bits y
  match op with
  | .and=>k.wrap (a &&& b).toNat
  | .or=>k.wrap (a ||| b).toNat
  | .xor=>k.wrap (a ^^^ b).toNat
  | _=>k.wrap (a &&& ~~~b).toNat
def intOp (op:BinOp) (k:IntKind) (a b:Int):Res α :=
  match op with
  | .add=>.v (.int k (k.wrap (a+b)))
  | .sub=>.v (.int k (k.wrap (a - b)))
  | .mul=>.v (.int k (k.wrap (a * b)))
  | .quo=>.if (!(b==0)) (.int k (k.wrap (a.tdiv b)))
  | .rem=>.if (!(b==0)) (.int k (a.tmod b))
  | .and | .or | .xor | .andNot=>.v (.int k (bitsE op k a b))
  | .eql=>.v (.bool (a==b))
  | .neq=>.v (.bool (a != b))
  | .lss=>.v (.bool (decide (a < b)))
  | .leq=>.v (.bool (decide (a≤b)))
  | .gtr=>.v (.bool (decide (a > b)))
  | .geq=>.v (.bool (decide (a ≥ b)))
  | _=>.no
def shiftOp (op:BinOp) (k:IntKind) (a y:Int):Res α :=
  match op with
  | .shl=>.if (decide (0≤y)) (.int k (k.wrap (a * 2 ^ (min y.toNat k.bits))))
  | .shr=>.if (decide (0≤y)) (.int k (a.fdiv (2 ^ (min y.toNat k.bits))))
  | _=>.no
def strOp (op:BinOp) (a b:List UInt8):Res α :=
  match op with
  | .add=>.if (Nat.ble (a.length+b.length) big) (.str (a++b))
  | .eql=>.v (.bool (a==b))
  | .neq=>.v (.bool (!(a==b)))
  | .lss=>.v (.bool (Op.bytesLess a b))
  | .leq=>.v (.bool (Op.bytesLess a b||a==b))
  | .gtr=>.v (.bool (!(Op.bytesLess a b||a==b)))
  | .geq=>.v (.bool (!(Op.bytesLess a b)))
  | _=>.no
def eqD (P:Program) (pt:TypeId→Bool):Nat→TypeId→D α→D α→Option Bool
  | 0,_,_,_=>none
  | n+1,t,x,y =>
    match P.underlying t,x,y with
    | some .bool,.bool a,.bool b=>some (a==b)
    | some (.int _),.int k a,.int k' b=>bif k==k' then some (a==b) else none
    | some .string,.str a,.str b=>some (a==b)
    | some (.struct fs),.agg xs,.agg ys =>
      bif pt t then
        fs.toList.foldr (fun f acc=>match acc,partD P f.type xs f.offset,partD P f.type ys f.offset with
          | some r,some u,some v=>bif f.name=="_" then some r else match eqD P pt n f.type u v with
            | some e=>some (e&&r)
            | none=>none
          | _,_,_=>none) (some true)
      else none
    | _,_,_=>none
def nilCmp:D α→D α→Option (Nat×Bool)
  | .nilP,.nilP=>some (1,true)
  | .nilS,.nilS=>some (2,true)
  | .nilF,.nilF=>some (3,true)
  | .nilM,.nilM=>some (4,true)
  | .nilP,.ref _ | .ref _,.nilP | .nilP,.ptr _ _ | .ptr _ _,.nilP | .nilP,.epr _ _ _ | .epr _ _ _,.nilP=>some (1,false)
  | .nilF,.fn _ _ | .fn _ _,.nilF=>some (3,false)
  | .nilS,.pl _ (.nil b) | .pl _ (.nil b),.nilS=>some (2,b)
  | .nilI,.ifc _ _ | .ifc _ _,.nilI | .nilI,.ifa | .ifa,.nilI=>some (5,false)
  | .nilP,.mref b _ | .mref b _,.nilP=>some (1,!b)
  | _,_=>none
def keyS (P:Program):Nat→TypeId→List KC→Bool
  | 0,_,_=>false
  | d+1,t,cs=>match P.underlying t,cs with
    | some .bool,[.b]=>true
    | some (.int q),[.i q']=>q==q'
    | some .string,[.s]=>true
    | some (.struct fs),cs=>Nat.beq cs.length (P.cellsOf t)&&fs.all (·.name != "_")&&fs.toList.all fun f=>keyS P d f.type ((cs.drop f.offset).take (P.cellsOf f.type))
    | _,_=>false
def keyOkD (P:Program) (kt:TypeId) (s:Bool×List KC):Bool :=
  match P.underlying kt,s with
  | some .bool,(false,[.b])=>true
  | some (.int q),(false,[.i q'])=>q==q'
  | some .string,(false,[.s])=>true
  | some (.struct _),(true,l)=>P.keyType kt&&P.keyTypeAt 9 kt&&P.tiled 9 kt&&Nat.beq l.length (P.cellsOf kt)&&keyS P (P.types.size+1) kt l
  | _,_=>false
def le1 (C:Pay α):D α→D α→Bool
  | .bool a,.bool b=>a==b
  | .int k a,.int k' b=>(k==k')&&(a==b)
  | .str a,.str b=>a==b
  | .nilP,.nilP | .nilS,.nilS | .nilF,.nilF | .nilI,.nilI | .nilM,.nilM=>true
  | .nilS,.pl p .any=>Nat.beq (C.len p) 0
  | _,_=>false
def leL (C:Pay α):List (D α)→List (D α)→Bool
  | [],[]=>true
  | d::r,e::s=>le1 C d e&&leL C r s
  | _,_=>false
def leD (C:Pay α):D α→D α→Bool
  | .agg cs,.agg ds=>leL C cs ds
  | d,e=>le1 C d e
def tyCode (P:Program) (t:TypeId):Nat :=
  match P.underlying t with
  | some (.pointer _)=>1
  | some (.slice _)=>2
  | some (.func _ _ _)=>3
  | some (.map _ _)=>4
  | some (.interface _)=>5
  | some .bool=>6
  | _=>0
def binD (X:Ctx α) (op:BinOp) (t:TypeId) (x y:D α):Res α :=
  match op,x,y with
  | .shl,.int k a,.int _ b | .shr,.int k a,.int _ b=>shiftOp op k a b
  | op,.int k a,.int k' b=>bif k==k' then intOp op k a b else .no
  | op,.str a,.str b=>strOp op a b
  | .eql,.bool a,.bool b=>bif Nat.beq (tyCode X.P t) 6 then .v (.bool (a==b)) else .no
  | .neq,.bool a,.bool b=>bif Nat.beq (tyCode X.P t) 6 then .v (.bool (!(a==b))) else .no
  | .eql,.agg xs,.agg ys=>bif X.plainT t then (match eqD X.P X.plainT 9 t (.agg xs) (.agg ys) with
    | some b=>.v (.bool b)
    | none=>.no) else .no
  | .neq,.agg xs,.agg ys=>bif X.plainT t then (match eqD X.P X.plainT 9 t (.agg xs) (.agg ys) with
    | some b=>.v (.bool (!b))
    | none=>.no) else .no
  | .eql,x,y=>match nilCmp x y with
    | some (c,b)=>bif Nat.beq c (tyCode X.P t) then .v (.bool b) else .no
    | none=>.no
  | .neq,x,y=>match nilCmp x y with
    | some (c,b)=>bif Nat.beq c (tyCode X.P t) then .v (.bool (!b)) else .no
    | none=>.no
  | _,_,_=>.no
def isCo:Operand→Bool
  | .const _=>true
  | _=>false
def binN (X:Ctx α) (op:BinOp) (t:TypeId) (xo yo:Operand) (x y:D α):Res α :=
  match op,x,y with
  | .eql,.nilI,.nilI=>bif (isCo xo||isCo yo)&&Nat.beq (tyCode X.P t) 5 then .v (.bool true) else .no
  | .neq,.nilI,.nilI=>bif (isCo xo||isCo yo)&&Nat.beq (tyCode X.P t) 5 then .v (.bool false) else .no
  | op,x,y=>binD X op t x y
def unD (op:UnOp) (x:D α):Res α :=
  match op,x with
  | .not,.bool b=>.v (.bool (!b))
  | .neg,.int k n=>.v (.int k (k.wrap (0 - n)))
  | .xor,.int k n=>.v (.int k (bitsE .xor k (if k.signed then -1 else k.max) n))
  | _,_=>.no
def convD (X:Ctx α) (hs:Obs α) (src dst:TypeId) (x:D α):Res α :=
  match X.P.underlying src,X.P.underlying dst,x with
  | some _,some (.int k),.int _ n=>.v (.int k (k.wrap n))
  | some _,some .string,.str l=>.v (.str l)
  | some .string,some (.slice e),.str l=>match X.P.underlying e,X.C.ofBytes dst l,szO X.P e with
    | some (.int .u8),some p,some 1=>.v (.pl p .any)
    | _,_,_=>.no
  | some (.slice e),some .string,x=>match X.P.underlying e,szO X.P e,x with
    | some (.int .u8),some 1,.nilS=>.v (.str [])
    | some (.int .u8),some 1,.pl p _=>match X.C.bytes p with
      | some l=>.v (.str l)
      | none=>.no
    | some (.int .u8),some 1,.arr o=>match look hs o with
      | some (.arr _ p)=>match X.C.bytes p with
        | some l=>.v (.str l)
        | none=>.no
      | _=>.no
    | _,_,_=>.no
  | _,_,_=>.no
def fieldOff (P:Program) (t:TypeId) (f:Nat):Option (Nat×TypeId) :=
  match P.underlying t with
  | some (.struct fs)=>match fs.toList[f]? with
    | some fd=>some (fd.offset,fd.type)
    | none=>none
  | _=>none
def nzT (P:Program) (t:TypeId):Bool:=match szO P t with
  | some (_+1)=>true
  | _=>false
def fieldAddrD (P:Program) (t:TypeId) (x:D α) (f:Nat):Res α :=
  match fieldOff P t f with
  | some (off,ft)=>bif nzT P ft then (match x with
    | .ptr o k=>.v (.ptr o (k+off))
    | .epr o i k=>.v (.epr o i (k+off))
    | .ref cs=>.v (.ref (cs.drop off))
    | _=>.no) else .no
  | none=>.no
def fieldD (P:Program) (t:TypeId) (x:D α) (f:Nat):Res α :=
  match fieldOff P t f,x with
  | some (off,ft),.agg cs=>.o (partD P ft cs off)
  | _,_=>.no
def inB (i:Int) (n:Nat):Bool:=decide (0≤i)&&decide (i < (n:Int))
def indexAddrD (X:Ctx α) (hs:Obs α) (t:TypeId) (x ix:D α):Res α :=
  match X.P.underlying t,x,ix with
  | some (.slice e),.pl p _,.int _ i=>match szO X.P e with
    | some n=>bif Nat.beq n (X.C.esz p) then .if (inB i (X.C.len p)) (.ref (X.C.elem p i.toNat)) else .no
    | none=>.no
  | some (.slice e),.arr o,.int _ i=>match look hs o,szO X.P e with
    | some (.arr _ p),some n=>bif Nat.beq n (X.C.esz p) then .if (inB i (X.C.len p)) (.epr o i.toNat 0) else .no
    | _,_=>.no
  | some (.array n e),.ptr o k,.int _ i=>match szO X.P e with
    | some m=>.if (inB i n) (.ptr o (k+i.toNat * m))
    | none=>.no
  | some (.array n e),.ref cs,.int _ i=>match szO X.P e with
    | some m=>.if (inB i n) (.ref (cs.drop (i.toNat * m)))
    | none=>.no
  | _,_,_=>.no
def indexD (P:Program) (t:TypeId) (x ix:D α):Res α :=
  match P.underlying t,x,ix with
  | some .string,.str l,.int _ i=>.if (inB i l.length) (.int .u8 (l.getD i.toNat 0).toNat)
  | some (.array n e),.agg cs,.int _ i=>match szO P e,partD P e cs (i.toNat * (szO P e).getD 0) with
    | some _,some d=>.if (inB i n) d
    | _,_=>.no
  | _,_,_=>.no
def optI:Option (D α)→Int→Option Int
  | none,z=>some z
  | some (.int _ n),_=>some n
  | _,_=>none
def spareD (X:Ctx α) (t:TypeId) (p:α):SK→Option α
  | .spare (c::s)=>match X.C.ofBytes t (c::s) with
    | some q=>X.C.cat p q
    | none=>none
  | _=>none
def spk (X:Ctx α) (p:α) (l h:Option (D α)) (b:Int):SK:=match l,h,X.C.bytes p with
  | none,some _,some s=>.spare (s.drop b.toNat)
  | _,_,_=>.any
def sliceD (X:Ctx α) (hs:Obs α) (tm:List (D α)) (t:TypeId) (x:D α) (l h m:Option (D α)):Res α :=
  match X.P.underlying t,x,m with
  | some .string,.str s,none=>match optI l 0,optI h s.length with
    | some a,some b=>.if (decide (0≤a)&&decide (a≤b)&&decide (b≤(s.length:Int))) (.str ((s.drop a.toNat).take (b.toNat - a.toNat)))
    | _,_=>.no
  | some (.slice e),.nilS,none=>match szO X.P e,optI l 0,optI h 0 with
    | some _,some a,some b=>.if ((a==0)&&(b==0)) .nilS
    | _,_,_=>.no
  | some (.slice e),.nilS,some (.int _ c)=>match szO X.P e,optI l 0,h with
    | some _,some a,some (.int _ b)=>.if ((a==0)&&(b==0)&&(c==0)) .nilS
    | _,_,_=>.no
  | some (.slice e),.pl p k,none=>match szO X.P e,optI l 0,optI h (X.C.len p) with
    | some n,some a,some b=>(match spareD X t p k with
      | some r=>.if (Nat.beq n (X.C.esz p)&&decide (0≤a)&&decide (a≤b)&&decide (b≤(X.C.len r:Int))) (.pl (X.C.cut r a.toNat (b.toNat - a.toNat)) .any)
      | none=>.if (Nat.beq n (X.C.esz p)&&decide (0≤a)&&decide (a≤b)&&decide (b≤(X.C.len p:Int))) (.pl (X.C.cut p a.toNat (b.toNat - a.toNat)) .any))
    | _,_,_=>.no
  | some (.slice e),.pl p _,some (.int _ c)=>match szO X.P e,optI l 0,h with
    | some n,some a,some (.int _ b)=>.if (Nat.beq n (X.C.esz p)&&decide (0≤a)&&decide (a≤b)&&decide (b≤(X.C.len p:Int))&&(c==b)) (.pl (X.C.cut p a.toNat (b.toNat - a.toNat)) .full)
    | _,_,_=>.no
  | some (.slice e),.arr o,none=>match look hs o,szO X.P e,optI l 0 with
    | some (.arr _ p),some n,some a=>match optI h (X.C.len p) with
      | some b =>
        let okb:=Nat.beq n (X.C.esz p)&&decide (0≤a)&&decide (a≤b)&&decide (b≤(X.C.len p:Int))
        ⟨okb,.pl (X.C.cut p a.toNat (b.toNat - a.toNat)) (spk X p l h b),some (tm,freeze hs [o])⟩
      | none=>.no
    | _,_,_=>.no
  | _,_,_=>.no
def fillD (place:Nat→Option (Nat×Nat)) (cs:List (D α)):List (Nat×D α)→Option (List (D α))
  | []=>some cs
  | (i,d)::r=>match place i with
    | none=>none
    | some (off,size)=>bif isGood d&&Nat.beq (cellsD d).length size&&Nat.ble (off+size) cs.length then fillD place (overL cs off (cellsD d)) r else none
where
  isGood:D α→Bool
    | .tup _ | .gd _ _ _ | .bad | .lit _ | .ow _ _=>false
    | _=>true
def buildD (P:Program) (t:TypeId) (parts:List (Nat×D α)):Res α :=
  match zeroD (α:=α) P t,P.underlying t with
  | some (.agg z),some (.struct fs)=>match fillD (fun i=>match fs.toList[i]? with
      | some f=>match szO P f.type with
        | some n=>some (f.offset,n)
        | none=>none
      | none=>none) z parts with
    | some cs=>.if (fs.toList.all fun f=>(szO P f.type).isSome) (.agg cs)
    | none=>.no
  | some (.agg z),some (.array _ e)=>match szO P e with
    | some n=>match fillD (fun i=>some (i * n,n)) z parts with
      | some cs=>.v (.agg cs)
      | none=>.no
    | none=>.no
  | _,_=>.no
def zsz (P:Program) (t:TypeId):Bool:=match P.info? t with
  | some i=>match i.zero with
    | some z=>Nat.beq z.cells.size i.size&&z.cells.toList.all Value.oneCell'
    | none=>false
  | none=>false
def rowsOf (n:Nat):Nat→List (Nat×D α)→Option (List (List (D α)))
  | _,[]=>some []
  | i,(j,d)::r=>bif Nat.beq i j&&fillD.isGood d&&Nat.beq (cellsD d).length n then (match rowsOf n (i+1) r with
    | some l=>some (cellsD d::l)
    | none=>none) else none
def snocs (C:Pay α):α→List (List (D α))→Option α
  | p,[]=>some p
  | p,r::l=>match C.snoc p r with
    | some q=>snocs C q l
    | none=>none
def lendAll (C:Pay α) (hs:Obs α):List (D α)→Option (List (D α)×List Nat)
  | []=>some ([],[])
  | d::r=>match lend C hs 40 d,lendAll C hs r with
    | some (x,ns),some (l,ms)=>some (x::l,ns++ms)
    | _,_=>none
def isNil:List Nat→Bool
  | []=>true
  | _=>false
def buildSliceD (X:Ctx α) (hs:Obs α) (tm:List (D α)) (t:TypeId) (len:Nat) (parts:List (Nat×D α)):Res α :=
  match X.P.underlying t with
  | some (.slice e)=>match szO X.P e,bysO X.P e,X.C.emp t,lendAll X.C hs (parts.map (·.2)) with
    | some n,some by_,some p0,some (ds,ns)=>match rowsOf n 0 (parts.zip ds |>.map fun x=>(x.1.1,x.2)) with
      | some rows=>match snocs X.C p0 rows with
        | some p=>⟨Nat.beq rows.length len&&Nat.beq n (X.C.esz p)&&Nat.beq by_ (X.C.bys p)&&Nat.ble (len * n) 16777216&&Nat.ble (len * by_) big&&zsz X.P e,.pl p .full,bif isNil ns then none else some (tm,freeze hs ns)⟩
        | none=>.no
      | none=>.no
    | _,_,_,_=>.no
  | _=>.no
def srcOf (_C:Pay α) (hs:Obs α) (p0:α):D α→Option α
  | .nilS=>some p0
  | .pl p _=>some p
  | .arr o=>match look hs o with
    | some (.arr _ p)=>some p
    | _=>none
  | _=>none
def zeroLen (n:Nat):Bool:=Nat.beq n 0
def appendTo (X:Ctx α) (hs:Obs α) (tm:List (D α)) (dst o n by_:Nat) (z:Bool) (p q:α):Res α :=
  match X.C.cat p q with
  | some r=>⟨Nat.blt dst 40000&&(z&&Nat.beq n (X.C.esz p)&&Nat.beq n (X.C.esz q)&&Nat.beq by_ (X.C.bys p)&&Nat.ble ((X.C.len p+X.C.len q) * by_) big),.arr dst,
      some (tm.map (kill (nsOf o dst)),rebind o dst (.arr false r) hs)⟩
  | none=>.no
def strSrc (X:Ctx α) (t t2:TypeId):D α→Option α
  | .str l=>match X.P.underlying t2 with
    | some .string=>X.C.ofBytes t l
    | _=>none
  | _=>none
def srcD (X:Ctx α) (hs:Obs α) (t t2:TypeId) (p0:α) (y:D α):Option α:=bif Nat.beq t t2 then srcOf X.C hs p0 y else strSrc X t t2 y
def appendD (X:Ctx α) (hs:Obs α) (tm:List (D α)) (dst:Nat) (t t2:TypeId) (x y:D α):Res α :=
  match X.P.underlying t with
  | some (.slice e)=>(match szO X.P e,bysO X.P e,X.C.emp t with
    | some n,some by_,some p0=>match srcD X hs t t2 p0 y with
      | some q=>match x with
        | .nilS=>appendTo X hs tm dst dst n by_ (zsz X.P e) p0 q
        | .pl p .full=>appendTo X hs tm dst dst n by_ (zsz X.P e&&(zeroLen (X.C.len p)||!(zeroLen (X.C.len q)))) p q
        | .arr o=>match look hs o with
          | some (.arr false p)=>appendTo X hs tm dst o n by_ (zsz X.P e) p q
          | _=>.no
        | _=>.no
      | none=>.no
    | _,_,_=>.no)
  | _=>.no
def lenD (X:Ctx α) (hs:Obs α) (t:TypeId) (x:D α):Res α :=
  match X.P.underlying t,x with
  | some .string,.str l=>.v (.int .i64 l.length)
  | some (.slice _),.nilS=>.v (.int .i64 0)
  | some (.slice _),.pl p _=>.v (.int .i64 (X.C.len p))
  | some (.slice _),.arr o=>match look hs o with
    | some (.arr _ p)=>.v (.int .i64 (X.C.len p))
    | _=>.no
  | some (.array n _),_=>.if (inR .i64 n) (.int .i64 n)
  | _,_=>.no
def capD (X:Ctx α) (t:TypeId) (x:D α):Res α :=
  match X.P.underlying t,x with
  | some (.slice _),.nilS=>.v (.int .i64 0)
  | _,_=>.no
def mapOf (X:Ctx α) (hs:Obs α) (t:TypeId):D α→Option α
  | .mp o=>match look hs o with
    | some (.map _ p)=>some p
    | _=>none
  | .mr p=>some p
  | .nilM=>X.C.memp t
  | _=>none
def lookupD (X:Ctx α) (hs:Obs α) (t:TypeId) (x k:D α) (ok:Bool):Res α :=
  match X.P.underlying t,mapOf X hs t x with
  | some (.map kt et),some p=>match X.C.mget p k,zeroD X.P et,shp k with
    | some (v,b),some z,some s=>.if (keyOkD X.P kt s&&leD X.C z (X.C.mzero p)) (bif ok then .tup [v,.bool b] else v)
    | _,_,_=>.no
  | _,_=>.no
def mapUpdateD (X:Ctx α) (tm:List (D α)) (hs:Obs α) (t:TypeId) (x k v:D α):Res α :=
  match X.P.underlying t,x with
  | some (.map kt _),.mp o=>match look hs o with
    | some (.map false p)=>match lendAll X.C hs [v] with
      | some ([v'],ns)=>match X.C.mput p k v',shp k with
        | some q,some s=>⟨keyOkD X.P kt s&&(bif isNil ns then true else closed v'&&ns.all fun m=>!(Nat.beq m o)),.lit undef,some (tm,upd (bif isNil ns then hs else freeze hs ns) o (.map false q))⟩
        | _,_=>.no
      | _=>.no
    | _=>.no
  | _,_=>.no
def makeMapD (X:Ctx α) (tm:List (D α)) (hs:Obs α) (dst:Nat) (t:TypeId):Res α :=
  match X.P.underlying t,X.C.memp t with
  | some (.map _ _),some p=>⟨Nat.blt dst 40000,.mp dst,some (tm.map (kill (nsOf dst dst)),rebind dst dst (.map false p) hs)⟩
  | _,_=>.no
def zu8 (P:Program) (t:TypeId):Bool:=match P.info? t with
  | some i=>match i.zero with
    | some (.int .u8 n)=>(n==0)&&Nat.beq i.size 1&&Nat.beq i.bytes 1
    | _=>false
  | none=>false
def zi64 (P:Program) (t:TypeId):Bool:=match P.info? t with
  | some i=>match i.zero with
    | some (.int .i64 n)=>(n==0)&&Nat.beq i.size 1&&Nat.beq i.bytes 8
    | _=>false
  | none=>false
def zboo (P:Program) (t:TypeId):Bool:=match P.info? t with
  | some i=>match i.zero with
    | some (.bool b)=>!b&&Nat.beq i.size 1&&Nat.beq i.bytes 1
    | _=>false
  | none=>false
def makeSliceD (X:Ctx α) (tm:List (D α)) (hs:Obs α) (dst:Nat) (t:TypeId) (x y:D α):Res α :=
  match X.P.underlying t,x,y with
  | some (.slice e),.int _ n,.int _ m=>bif zu8 X.P e then (match X.C.ofBytes t (List.replicate n.toNat 0) with
    | some p=>⟨Nat.blt dst 40000&&(zu8 X.P e&&decide (0≤n)&&(n==m)&&Nat.ble n.toNat big),.arr dst,some (tm.map (kill (nsOf dst dst)),rebind dst dst (.arr false p) hs)⟩
    | none=>.no)
    else (match X.C.rep t n.toNat with
    | some p=>⟨Nat.blt dst 40000&&(((zi64 X.P e&&Nat.beq (X.C.bys p) 8)||(zboo X.P e&&Nat.beq (X.C.bys p) 1))&&decide (0≤n)&&(n==m)&&Nat.ble (n.toNat * 8) big),.arr dst,some (tm.map (kill (nsOf dst dst)),rebind dst dst (.arr false p) hs)⟩
    | none=>.no)
  | _,_,_=>.no
def minD (gt:Bool):D α→List (D α)→Option (D α)
  | d,[]=>some d
  | .int k x,.int k' y::r=>bif k==k' then minD gt (.int k (bif (bif gt then decide (y > x) else decide (y < x)) then y else x)) r else none
  | _,_=>none
def atP:List Nat→D α→Option (D α)
  | [],d=>some d
  | i::r,.agg cs=>match cs[i]? with
    | some c=>atP r c
    | none=>none
  | i::r,.tup cs=>match cs[i]? with
    | some c=>atP r c
    | none=>none
  | _::_,_=>none
def putP:List Nat→D α→D α→D α
  | [],x,_=>x
  | i::r,x,.agg cs=>match cs[i]? with
    | some c=>.agg (setT cs i (putP r x c))
    | none=>.agg cs
  | i::r,x,.tup cs=>match cs[i]? with
    | some c=>.tup (setT cs i (putP r x c))
    | none=>.tup cs
  | _::_,_,d=>d
def newN (hs:Obs α) (n:Nat):Option Nat:=bif !(Nat.blt n 40000) then none else match look hs n with
  | none=>some n
  | some _=>match look hs (n+1000) with
    | none=>some (n+1000)
    | some _=>none
def bindD (hs:Obs α) (dst:Option Nat) (d:D α):Option (Nat×α×D α):=match d,dst with
  | .ow k e,some n=>match atP k e,newN hs n with
    | some (.pl p _),some m=>some (m,p,putP k (.arr m) e)
    | _,_=>none
  | _,_=>none
def mOf (X:Ctx α) (f:FuncId):Bool:=bif X.noM then false else X.isM f
def nmOf:List (Nat×Nat)→Nat→Option Nat
  | [],_=>none
  | (o,c)::r,k=>bif Nat.beq o k then some c else nmOf r k
def pack (C:Pay α) (hs:Obs α) (nm:List (Nat×Nat)):Nat→D α→Option (D α×List Nat)
  | 0,_=>none
  | _+1,.arr o=>match nmOf nm o with
    | some c=>some (.arr c,[])
    | none=>match look hs o with
      | some (.arr _ p)=>some (.pl p .any,[o])
      | _=>none
  | n+1,.ptr o off=>match nmOf nm o with
    | some c=>some (.ptr c off,[])
    | none=>match look hs o with
      | some (.box _ cs)=>match packL C hs nm n (cs.drop off) with
        | some (l,ns)=>some (.ref l,o::ns)
        | none=>none
      | _=>none
  | _+1,.epr o i off=>match nmOf nm o with
    | some c=>some (.epr c i off,[])
    | none=>match look hs o with
      | some (.arr _ p)=>some (.ref ((C.elem p i).drop off),[o])
      | _=>none
  | _+1,.mp o=>match nmOf nm o with
    | some c=>some (.mp c,[])
    | none=>match look hs o with
      | some (.map _ p)=>some (.mr p,[o])
      | _=>none
  | n+1,.agg cs=>match packL C hs nm n cs with
    | some (l,ns)=>some (.agg l,ns)
    | none=>none
  | n+1,.tup cs=>match packL C hs nm n cs with
    | some (l,ns)=>some (.tup l,ns)
    | none=>none
  | n+1,.ref cs=>match packL C hs nm n cs with
    | some (l,ns)=>some (.ref l,ns)
    | none=>none
  | n+1,.fn f cs=>match packL C hs nm n cs with
    | some (l,ns)=>some (.fn f l,ns)
    | none=>none
  | n+1,.ifc t d=>match pack C hs nm n d with
    | some (x,ns)=>some (.ifc t x,ns)
    | none=>none
  | _+1,.gd _ _ _=>none
  | _+1,.ow _ _=>none
  | _+1,d=>some (d,[])
where
  packL (C:Pay α) (hs:Obs α) (nm:List (Nat×Nat)):Nat→List (D α)→Option (List (D α)×List Nat)
    | _,[]=>some ([],[])
    | 0,_::_=>none
    | n+1,d::r=>match pack C hs nm n d,packL C hs nm n r with
      | some (x,ns),some (l,ms)=>some (x::l,ns++ms)
      | _,_=>none
def packAll (C:Pay α) (hs:Obs α) (nm:List (Nat×Nat)):List (D α)→Option (List (D α)×List Nat)
  | []=>some ([],[])
  | d::r=>match pack C hs nm 40 d,packAll C hs nm r with
    | some (x,ns),some (l,ms)=>some (x::l,ns++ms)
    | _,_=>none
def packOb (C:Pay α) (hs:Obs α) (nm:List (Nat×Nat)):Ob α→Option (Ob α×List Nat)
  | .box false cs=>match packAll C hs nm cs with
    | some (l,ns)=>some (.box false l,ns)
    | none=>none
  | .arr false p=>some (.arr false p,[])
  | .map false p=>some (.map false p,[])
  | _=>none
def packH (C:Pay α) (hs:Obs α) (nm:List (Nat×Nat)):List (Nat×Nat)→Option (Obs α×List Nat)
  | []=>some ([],[])
  | (o,c)::r=>match look hs o with
    | some ob=>match packOb C hs nm ob,packH C hs nm r with
      | some (x,ns),some (H,ms)=>some ((c,x)::H,ns++ms)
      | _,_=>none
    | none=>none
def memNat:List Nat→Nat→Bool
  | [],_=>false
  | x::r,n=>Nat.beq x n||memNat r n
def distinctN:List Nat→Bool
  | []=>true
  | x::r=>!(memNat r x)&&distinctN r
def packE (C:Pay α) (hs:Obs α) (nm:List (Nat×Nat)) (ds:List (D α)):Option (Obs α×List (D α)×List Nat) :=
  match packH C hs nm nm,packAll C hs nm ds with
  | some (H,ns),some (l,ms)=>bif distinctN (nm.map (·.1))&&(distinctN (nm.map (·.2))&&(ns++ms).all fun o=>(nmOf nm o).isNone) then some (H,l,ns++ms) else none
  | _,_=>none
def nestsC (hs:Obs α) (base:Nat):Nat→List (D α)→List (Nat×Nat)
  | _,[]=>[]
  | j,.arr a::r=>match look hs a with
    | some (.arr false _)=>(a,base+j)::nestsC hs base (j+1) r
    | _=>nestsC hs base (j+1) r
  | j,.mp a::r=>match look hs a with
    | some (.map false _)=>(a,base+j)::nestsC hs base (j+1) r
    | _=>nestsC hs base (j+1) r
  | j,_::r=>nestsC hs base (j+1) r
def nestsOf (hs:Obs α) (f:Nat→Nat):List (Nat×Nat)→List (Nat×Nat)
  | []=>[]
  | (o,c)::r=>match look hs o with
    | some (.box _ cs)=>nestsC hs (f c) 0 cs++nestsOf hs f r
    | _=>nestsOf hs f r
def inNest (c:Nat):Nat:=100000+1000 * (c - 50000)
def outNest (c:Nat):Nat:=10000000+1000 * c
mutual
def namesD:D α→List Nat
  | .ptr o _ | .mp o=>[o]
  | .agg cs | .tup cs | .fn _ cs=>namesL cs
  | .ifc _ d=>namesD d
  | _=>[]
def namesL:List (D α)→List Nat
  | []=>[]
  | d::r=>namesD d++namesL r
end
def namesC:List (D α)→List Nat
  | []=>[]
  | .mp _::r=>namesC r
  | d::r=>namesD d++namesC r
def boxesOf (hs:Obs α):Nat→List Nat→List Nat→List Nat
  | 0,_,acc=>acc
  | _+1,[],acc=>acc
  | n+1,o::r,acc=>bif memNat acc o then boxesOf hs n r acc else match look hs o with
    | some (.box false cs)=>boxesOf hs n (r++namesC cs) (acc++[o])
    | some (.map false _)=>boxesOf hs n r (acc++[o])
    | _=>boxesOf hs n r acc
def topNm:Nat→List Nat→List (Nat×Nat)
  | _,[]=>[]
  | i,o::r=>(o,50000+i)::topNm (i+1) r
def encH:Obs α→List (D α)
  | []=>[]
  | (n,.box _ cs)::r=>.obB n cs::encH r
  | (n,.arr _ p)::r=>.obA n p::encH r
  | (n,.map _ p)::r=>.obM n p::encH r
def decH:List (D α)→Obs α
  | []=>[]
  | .obB n cs::r=>(n,.box false cs)::decH r
  | .obA n p::r=>(n,.arr false p)::decH r
  | .obM n p::r=>(n,.map false p)::decH r
  | _::r=>decH r
def swapN:List (Nat×Nat)→List (Nat×Nat)
  | []=>[]
  | (a,b)::r=>(b,a)::swapN r
def dropA (ns:Nat→Bool):Obs α→Obs α
  | []=>[]
  | (n,x)::r=>bif ns n then dropA ns r else (n,x)::dropA ns r
def topOk (hs:Obs α) (x:Nat×Nat):Bool:=match look hs x.1 with
  | some (.box _ _)=>Nat.blt x.2 100000&&!(Nat.blt x.2 50000)
  | some (.map _ _)=>Nat.blt x.2 100000&&!(Nat.blt x.2 50000)
  | _=>false
def callM (X:Ctx α) (hs:Obs α) (args:List (D α)):Option (List (Nat×Nat)×List (Nat×Nat)×Obs α×List (D α)×List Nat) :=
  let tops:=topNm 0 (boxesOf hs 64 (namesL args) [])
  let nests:=nestsOf hs inNest tops
  match packE X.C hs (tops++nests) args with
  | some (H,ds,ns)=>bif tops.all (topOk hs) then some (tops,nests,H,ds,ns) else none
  | none=>none
def aboveN:Nat→Obs α→Nat
  | n,[]=>n
  | n,(m,_)::r=>bif Nat.ble n m then aboveN (m+1) r else aboveN n r
def nmFrom:Nat→List Nat→List (Nat×Nat)
  | _,[]=>[]
  | i,o::r=>(o,i)::nmFrom (i+1) r
def isNew (n:Nat):Bool:=Nat.ble 90000000 n&&Nat.blt n 90100000
def newsOf (base:Nat) (H:Obs α):List (Nat×Nat):=nmFrom base ((H.map (·.1)).filter isNew)
def backM (X:Ctx α) (tm:List (D α)) (hs:Obs α) (tops nests:List (Nat×Nat)) (ns:List Nat) (H:Obs α) (d:D α):Option (List (D α)×Obs α×D α) :=
  let bt:=swapN tops
  let ks:=fun k=>memNat (nests.map (·.1)) k
  let old:=killH ks (dropA (fun k=>memNat ((tops++nests).map (·.1)) k) (freeze hs ns))
  let nw:=newsOf (aboveN 1000000000000 hs) H
  let bn:=nw++nestsOf H outNest (bt++nw)
  let bm:=bt++bn
  match packE X.C H bm [d] with
  | some (H2,[d'],_) =>
    bif (bm.all fun x=>(look old x.2).isNone)&&bn.all fun x=>Nat.ble 100000 x.2 then some (tm.map (kill ks),H2++old,d') else none
  | _=>none
def callMD (X:Ctx α) (hs:Obs α) (tm:List (D α)) (f:FuncId) (args:List (D α)):Res α :=
  match callM X hs args with
  | some (tops,nests,H,ds,ns)=>match X.R (f+1000000) (.env (encH H) .bad::ds) with
    | some (b,.env os d)=>match backM X tm hs tops nests ns (decH os) d with
      | some (tm',hs',d')=>⟨b,d',some (tm',hs')⟩
      | none=>.no
    | _=>.no
  | none=>.no
def callD (X:Ctx α) (hs:Obs α) (tm:List (D α)) (dst:Option Nat) (f:FuncId) (args:List (D α)):Res α :=
  bif mOf X f then callMD X hs tm f args else
  match (bif Nat.blt f 1000000 then lendAll X.C hs args else none) with
  | some (ds,ns)=>match X.R f ds with
    | some (b,d)=>match bindD hs dst d with
      | some (m,p,e)=>⟨b&&closed d,e,some (tm,(m,.arr false p)::freeze hs ns)⟩
      | none=>bif isNil ns||flat d then ⟨b&&closed d,d,none⟩ else ⟨b&&closed d,d,some (tm,freeze hs ns)⟩
    | none=>.no
  | none=>.no
def boxD (tm:List (D α)) (hs:Obs α) (dst:Nat) (cs:List (D α)):Res α :=
  ⟨Nat.blt dst 40000,.ptr dst 0,some (tm.map (kill (nsOf dst dst)),rebind dst dst (.box false (killL (nsOf dst dst) cs)) hs)⟩
def storeD (X:Ctx α) (tm:List (D α)) (hs:Obs α) (t:TypeId) (a d:D α):Res α :=
  match storeCellsD X.P t d with
  | some cs=>match a with
    | .ptr o off=>match look hs o with
      | some (.box false old)=>⟨Nat.ble (off+cs.length) old.length,.lit undef,some (tm,upd hs o (.box false (overL old off cs)))⟩
      | _=>.no
    | .epr o i off=>match look hs o with
      | some (.arr false p)=>match lendAll X.C hs cs with
        | some (ds,ns)=>match X.C.set p i (overL (X.C.elem p i) off ds) with
          | some q=>⟨Nat.ble (off+cs.length) (X.C.esz p)&&inB i (X.C.len p)&&isNil ns,.lit undef,some (tm,upd hs o (.arr false q))⟩
          | none=>.no
        | none=>.no
      | _=>.no
    | _=>.no
  | none=>.no
def cellsAt (C:Pay α) (hs:Obs α):D α→Option (List (D α)×Nat)
  | .ptr o off=>match look hs o with
    | some (.box _ cs)=>some (cs,off)
    | _=>none
  | .epr o i off=>match look hs o with
    | some (.arr _ p)=>some (C.elem p i,off)
    | _=>none
  | .ref cs=>some (cs,0)
  | _=>none
def slotOf (ops:Array Oper) (j:Nat):Option Nat:=(ops[j]?).bind (·.dst)
def tmpOf:Operand→Option Nat
  | .tmp t=>some t
  | _=>none
def mvB:Nat:=100000000
def evK (X:Ctx α) (tm:List (D α)) (ks:List (Nat×Bool)):Operand→D α
  | .tmp t=>strip ks (getT tm t)
  | .const v=>ofV v
  | .global g=>match X.glob g with
    | some cs=>.ref cs
    | none=>.bad
  | .func f=>bif Nat.blt f mvB then .fn f [] else .bad
def fnId (g:FuncId):FuncId:=bif Nat.blt g mvB then g else g % mvB
def capA (g:FuncId) (cs l:List (D α)):List (D α):=bif Nat.blt g mvB then l++cs else cs++l
def evalOp (X:Ctx α) (tm:List (D α)) (hs:Obs α) (ks:List (Nat×Bool)) (o:Oper):Res α :=
  let e:=evK X tm ks
  let dst:=o.dst.getD 0
  match o.op with
  | .move x | .assign x=>.v (e x)
  | .pick c a b=>match e c,tmpOf c with
    | .bool cb,some s=>match evK X tm ((s,true)::ks) a,evK X tm ((s,false)::ks) b with
      | .bool x,.bool y=>.v (.bool (bif cb then x else y))
      | x,y=>.v (bif cb then x else y)
    | .bool cb,none=>.v (bif cb then e a else e b)
    | _,_=>.no
  | .box t x=>match storeCellsD X.P t (e x) with
    | some cs=>boxD tm hs dst cs
    | none=>.no
  | .alloc t=>match zeroD (α:=α) X.P t with
    | some z=>bif goodCells (cellsD z) then boxD tm hs dst (cellsD z) else .no
    | none=>.no
  | .build t ps=>buildD X.P t (ps.toList.map fun x=>(x.1,e x.2))
  | .buildSlice t n ps=>buildSliceD X hs tm t n (ps.toList.map fun x=>(x.1,e x.2))
  | .load t a=>match cellsAt X.C hs (e a) with
    | some (cs,off)=>.o (loadD X.P t cs off)
    | none=>.no
  | .store t a x=>storeD X tm hs t (e a) (e x)
  | .makeMap t none=>makeMapD X tm hs dst t
  | .makeSlice t x y=>makeSliceD X tm hs dst t (e x) (e y)
  | .lookup t x k ok=>lookupD X hs t (e x) (e k) ok
  | .mapUpdate t m k x=>mapUpdateD X tm hs t (e m) (e k) (e x)
  | .insert t m k x=>mapUpdateD X tm hs t (e m) (e k) (e x)
  | .nilCheck x=>match e x with
    | .ptr o k=>.v (.ptr o k)
    | .epr o i k=>.v (.epr o i k)
    | .ref cs=>.v (.ref cs)
    | .fn f cs=>.v (.fn f cs)
    | .mref b cs=>.if b (.ref cs)
    | _=>.no
  | .binOp op t x y _=>binN X op t x y (e x) (e y)
  | .unOp op _ x=>unD op (e x)
  | .convert s t x=>convD X hs s t (e x)
  | .makeFunc (.func f) first cap=>bif Nat.blt f mvB then (bif Nat.beq first.size 0 then .v (.fn f (cap.toList.map e)) else bif Nat.beq cap.size 0 then .v (.fn (f+mvB) (first.toList.map e)) else .no) else .no
  | .slice t x l h m=>sliceD X hs tm t (e x) (l.map e) (h.map e) (m.map e)
  | .fieldAddr t x f=>fieldAddrD X.P t (e x) f
  | .field t x f=>fieldD X.P t (e x) f
  | .indexAddr t x i=>indexAddrD X hs t (e x) (e i)
  | .index t x i=>indexD X.P t (e x) (e i)
  | .extract x i=>match e x with
    | .tup ds=>.o ds[i]?
    | _=>.no
  | .call { callee:=.value f,args,.. }=>match e f with
    | .fn g cs=>callD X hs tm o.dst (fnId g) (capA g cs (args.toList.map e))
    | _=>.no
  | .call { callee:=.builtin .len,args,argTypes }=>match args.toList,argTypes.toList with
    | [x],[t]=>lenD X hs t (e x)
    | _,_=>.no
  | .call { callee:=.builtin .cap,args,argTypes }=>match args.toList,argTypes.toList with
    | [x],[t]=>capD X t (e x)
    | _,_=>.no
  | .call { callee:=.builtin .append,args,argTypes }=>match args.toList,argTypes.toList with
    | [x,y],[t,t2]=>appendD X hs tm dst t t2 (e x) (e y)
    | _,_=>.no
  | .call { callee:=.builtin .min,args,.. }=>match args.toList with
    | x::r=>.o (minD false (e x) (r.map e))
    | []=>.no
  | .call { callee:=.builtin .max,args,.. }=>match args.toList with
    | x::r=>.o (minD true (e x) (r.map e))
    | []=>.no
  | _=>.no
def guardD (ops:Array Oper) (i:Nat) (tm:List (D α)) (o:Oper):Option (List (Nat×Bool)×Bool) :=
  match o.guard with
  | none=>some ([],true)
  | some (j,want)=>bif Nat.ble (j+1) i then (match slotOf ops j with
    | none=>none
    | some s=>match getT tm s with
      | .bool b=>some ([(s,want)],b==want)
      | .gd ks t (.bool b)=>some ((s,want)::ks,(b==want)&&t)
      | .gd ks t .bad=>bif t then none else some ((s,want)::ks,false)
      | _=>none) else none
def chk {γ:Type} (b:Bool) (x:Option γ):Option γ:=bif b then x else none
def br {γ:Type} (b:Bool) (x y:Option γ):Option γ:=bif b then x else y
def preOf (acc:List Nat) (l:List Edge):Nat :=
  match l with
  | []=>0
  | e::r=>bif Region.binds .any e then Nat.lor (Nat.lor (Nat.shiftLeft 1 e.on) ((acc[e.on]?).getD 0)) (preOf acc r) else preOf acc r
def presOf:List Oper→List Nat→List Nat
  | [],acc=>acc
  | o::r,acc=>presOf r (acc++[preOf acc o.after.toList])
def hasBit (m i:Nat):Bool:=Nat.beq (Nat.land (Nat.shiftRight m i) 1) 1
def backOK:Nat→List Oper→Bool
  | _,[]=>true
  | i,o::r=>o.after.toList.all (fun e=>!Region.binds .any e||Nat.ble (e.on+1) i)&&backOK (i+1) r
def memN:List Nat→Nat→Bool
  | [],_=>false
  | a::r,k=>Nat.beq a k||memN r k
def tmpsOf (ops:Array Oper) (o:Oper):List Nat :=
  (o.op.operands.toList.filterMap tmpOf)++(match o.guard with
    | some (j,_)=>(slotOf ops j).toList
    | none=>[])
def distinctD:List (Option Nat)→Bool
  | []=>true
  | none::r=>distinctD r
  | some a::r=>!(memN (r.filterMap id) a)&&distinctD r
def drawOK (ops:Array Oper) (ws:List Nat):Bool :=
  let n:=ops.size
  let pres:=presOf ops.toList []
  backOK 0 ops.toList&&(List.range n).all fun j=>(List.range j).all fun i =>
    hasBit ((pres[j]?).getD 0) i ||
      (match ops[i]?,ops[j]? with
       | some a,some b=>!(memN ws i)&&!(memN ws j)&&(match a.dst with
           | some d=>!(memN (tmpsOf ops b) d)
           | none=>true)&&(match b.dst with
           | some d=>!(memN (tmpsOf ops a) d)
           | none=>true)
       | _,_=>false)
def pureOp (o:Oper):Bool:=match o.op with
  | .move _ | .assign _ | .pick _ _ _ | .binOp _ _ _ _ _ | .unOp _ _ _ | .build _ _ | .field _ _ _ | .index _ _ _ | .fieldAddr _ _ _ | .extract _ _ | .makeFunc _ _ _ | .nilCheck _=>true
  | _=>false
def memOnly (noM:Bool) (o:Oper):Bool:=match o.op with
  | .store _ _ _ | .mapUpdate _ _ _ _ | .insert _ _ _ _ | .slice _ _ _ _ _ | .buildSlice _ _ _=>true
  | .call { callee:=.value _,.. }=>noM
  | _=>false
def drawB (noM:Bool) (ops:Array Oper) (ws:List Nat):Bool :=
  let n:=ops.size
  let pres:=presOf ops.toList []
  backOK 0 ops.toList&&((List.range n).all fun i=>match ops[i]? with
    | some o=>(!memN ws i||(memOnly noM o&&!pureOp o))
    | none=>true)&&(List.range n).all fun j=>(List.range j).all fun i =>
    hasBit ((pres[j]?).getD 0) i ||
      (match ops[i]?,ops[j]? with
       | some a,some b=>(pureOp a||pureOp b||(!(memN ws i)&&!(memN ws j)))&&(match a.dst with
           | some d=>!(memN (tmpsOf ops b) d)
           | none=>true)&&(match b.dst with
           | some d=>!(memN (tmpsOf ops a) d)
           | none=>true)
       | _,_=>false)
def wrapG (ks:List (Nat×Bool)) (t:Bool) (d:D α):D α :=
  match ks with
  | []=>d
  | ks=>.gd ks t d
def ungd:D α→D α
  | .gd _ _ _=>.bad
  | d=>d
def callOf (X:Ctx α) (tm:List (D α)) (hs:Obs α) (ks:List (Nat×Bool)) (o:Oper):Option (FuncId×List (D α)×List Nat) :=
  match o.op with
  | .call { callee:=.value f,args,.. }=>match evK X tm ks f with
    | .fn g cs=>bif mOf X (fnId g) then none else match (bif Nat.blt (fnId g) 1000000 then lendAll X.C hs (capA g cs (args.toList.map (evK X tm ks))) else none) with
      | some (ds,ns)=>some (fnId g,ds,ns)
      | none=>none
    | _=>none
  | _=>none
def callOfM (X:Ctx α) (tm:List (D α)) (hs:Obs α) (ks:List (Nat×Bool)) (o:Oper):Option (FuncId×List (Nat×Nat)×List (Nat×Nat)×Obs α×List (D α)×List Nat) :=
  match o.op with
  | .call { callee:=.value f,args,.. }=>match evK X tm ks f with
    | .fn g cs=>bif mOf X (fnId g) then (match callM X hs (capA g cs (args.toList.map (evK X tm ks))) with
      | some x=>some (fnId g,x)
      | none=>none) else none
    | _=>none
  | _=>none
def envOf:D α→Option (Obs α×D α)
  | .env os d=>some (decH os,d)
  | _=>none
def isCall (o:Oper):Bool:=match o.op with
  | .call { callee:=.value _,.. }=>true
  | _=>false
def refineT (ops:Array Oper) (o:Oper) (tm:List (D α)) (b:Bool):List (D α) :=
  match o.guard with
  | none=>tm
  | some (j,want)=>match slotOf ops j with
    | none=>tm
    | some s=>match getT tm s with
      | .bool _=>setT tm s (.bool (bif b then want else !want))
      | .gd ks t (.bool b0)=>setT tm s (.gd ks t (.bool (bif t then (bif b then want else !want) else b0)))
      | _=>tm
abbrev CK (α γ:Type):=FuncId→List (D α)→(D α→Option γ)→Option γ
def runL {γ:Type} (X:Ctx α) (RK:CK α γ) (ops:Array Oper):Nat→List Oper→List (D α)→Obs α→List Nat→List (List (D α)×Obs α)→(List (D α)→Obs α→List Nat→List (List (D α)×Obs α)→Option γ)→Option γ
  | _,[],tm,hs,ws,lg,k=>k tm hs ws lg
  | i,o::rest,tm,hs,ws,lg,k =>
    match guardD ops i tm o with
    | none=>none
    | some g => bif isCall o then
        br g.2 (match callOf X (refineT ops o tm true) hs g.1 o with
          | none=>match callOfM X (refineT ops o tm true) hs g.1 o with
            | none=>none
            | some (f,tops,nests,H,ds,ns)=>RK (f+1000000) (.env (encH H) .bad::ds) fun e=>match envOf e with
              | some (H',d)=>match backM X (refineT ops o tm true) hs tops nests ns H' d with
                | some (tm',hs',d')=>runL X RK ops (i+1) rest (putT tm' o.dst d') hs' (i::ws) (lg++[(putT tm' o.dst d',hs')]) k
                | none=>none
              | none=>none
          | some (f,ds,ns)=>RK f ds fun d=>chk (closed d) (match bindD hs o.dst d with
            | some (m,p,e)=>runL X RK ops (i+1) rest (putT (refineT ops o tm true) o.dst e) ((m,.arr false p)::freeze hs ns) (i::ws) (lg++[(putT (refineT ops o tm true) o.dst e,(m,.arr false p)::freeze hs ns)]) k
            | none=>bif isNil ns||flat d then runL X RK ops (i+1) rest (putT (refineT ops o tm true) o.dst d) hs ws (lg++[(putT (refineT ops o tm true) o.dst d,hs)]) k
              else runL X RK ops (i+1) rest (putT (refineT ops o tm true) o.dst d) (freeze hs ns) (i::ws) (lg++[(putT (refineT ops o tm true) o.dst d,freeze hs ns)]) k))
          (runL X RK ops (i+1) rest (putT (refineT ops o tm false) o.dst .bad) hs ws (lg++[(putT (refineT ops o tm false) o.dst .bad,hs)]) k)
      else
        let r:=evalOp X tm hs g.1 o
        match r.ch,o.guard with
        | none,_=>chk (r.ok||!g.2) (runL X RK ops (i+1) rest (putT tm o.dst (wrapG g.1 g.2 r.d)) hs ws (lg++[(putT tm o.dst (wrapG g.1 g.2 r.d),hs)]) k)
        | some (tm',hs'),none=>chk r.ok (runL X RK ops (i+1) rest (putT tm' o.dst r.d) hs' (i::ws) (lg++[(putT tm' o.dst r.d,hs')]) k)
        | some (tm',hs'),some _=>br g.2 (chk r.ok (runL X RK ops (i+1) rest (putT tm' o.dst r.d) hs' (i::ws) (lg++[(putT tm' o.dst r.d,hs')]) k))
            (runL X RK ops (i+1) rest (putT tm o.dst (.bad)) hs (i::ws) (lg++[(putT tm o.dst .bad,hs)]) k)
def addrIn (F:List Nat):D α→Nat
  | .ptr n _=>bif memN F n then 1 else 0
  | .epr n _ _=>bif memN F n then 2 else 0
  | .ref _=>0
  | _=>2
def strT (P:Program) (t:TypeId):Bool:=match P.underlying t with
  | some .string=>true
  | _=>false
def slOk (X:Ctx α) (t:TypeId) (d:D α):Bool:=strT X.P t||(match d with
  | .pl _ _=>true
  | .nilS=>true
  | _=>false)
def isOwD:D α→Bool
  | .ow _ _=>true
  | _=>false
def closedCall (X:Ctx α) (tm:List (D α)) (o:Oper):Bool:=match o.op with
  | .call { callee:=.value f,args,.. }=>(match evK X tm [] f with
    | .fn g cs=>!(mOf X (fnId g))&&closedL (capA g cs (args.toList.map (evK X tm [])))
    | _=>false)
  | _=>false
def closedRes (tm1:List (D α)) (o:Oper):Bool:=match o.dst with
  | some d=>Nat.blt d tm1.length&&(closed (getT tm1 d)&&!(isOwD (getT tm1 d)))
  | none=>false
mutual
def freeD (F:List Nat):D α→Bool
  | .arr n | .ptr n _ | .epr n _ _ | .mp n=>!memN F n
  | .gd _ _ _=>false
  | .agg cs | .tup cs | .ref cs | .fn _ cs=>freeL F cs
  | .ifc _ d=>freeD F d
  | .ow _ d=>freeD F d
  | _=>true
def freeL (F:List Nat):List (D α)→Bool
  | []=>true
  | d::r=>freeD F d&&freeL F r
end
def okC (X:Ctx α) (F:List Nat) (tm:List (D α)) (hs:Obs α) (o:Oper):Bool :=
  (evalOp X tm hs [] o).ok&&match o.op,o.dst with
  | .load _ a,_=>Nat.beq (addrIn F (evK X tm [] a)) 0&&freeD F (evalOp X tm hs [] o).d
  | .lookup _ m _ _,_=>freeD F (evK X tm [] m)&&freeD F (evalOp X tm hs [] o).d
  | .alloc t,some d=>memN F d&&(match zeroD (α:=α) X.P t with
    | some z=>closed z
    | none=>false)
  | .box _ x,some d=>memN F d&&closed (evK X tm [] x)
  | .store _ a x,none=>Nat.beq (addrIn F (evK X tm [] a)) 1&&closed (evK X tm [] x)
  | .slice t x _ _ _,_=>slOk X t (evK X tm [] x)&&closed (evalOp X tm hs [] o).d
  | .indexAddr _ x _,_=>closed (evK X tm [] x)&&closed (evalOp X tm hs [] o).d
  | .call _,_=>closedCall X tm o&&((evalOp X tm hs [] o).ch.isNone&&(closed (evalOp X tm hs [] o).d&&!(isOwD (evalOp X tm hs [] o).d)))
  | _,_=>pureOp o&&freeD F (evalOp X tm hs [] o).d
def okC0 (X:Ctx α) (F:List Nat) (tm:List (D α)) (hs:Obs α) (o:Oper):Bool :=
  match o.op,o.dst with
  | .load _ a,_=>Nat.beq (addrIn F (evK X tm [] a)) 0&&freeD F (evalOp X tm hs [] o).d
  | .lookup _ m _ _,_=>freeD F (evK X tm [] m)&&freeD F (evalOp X tm hs [] o).d
  | .alloc t,some d=>memN F d&&(match zeroD (α:=α) X.P t with
    | some z=>closed z
    | none=>false)
  | .box _ x,some d=>memN F d&&closed (evK X tm [] x)
  | .store _ a x,none=>Nat.beq (addrIn F (evK X tm [] a)) 1&&closed (evK X tm [] x)
  | .slice t x _ _ _,_=>slOk X t (evK X tm [] x)&&closed (evalOp X tm hs [] o).d
  | .indexAddr _ x _,_=>closed (evK X tm [] x)&&closed (evalOp X tm hs [] o).d
  | _,_=>pureOp o&&freeD F (evalOp X tm hs [] o).d
def touchC (X:Ctx α) (tm:List (D α)) (o:Oper):Option Nat :=
  match o.op,o.dst with
  | .alloc _,some d=>some d
  | .box _ _,some d=>some d
  | .store _ a _,none=>match evK X tm [] a with
    | .ptr n _=>some n
    | _=>none
  | _,_=>none
def nextC (X:Ctx α) (tm:List (D α)) (hs:Obs α) (o:Oper):List (D α)×Obs α :=
  let r:=evalOp X tm hs [] o
  match r.ch with
  | none=>(putT tm o.dst r.d,hs)
  | some (tm',hs')=>(putT tm' o.dst r.d,hs')
def stepsW:List Oper→List (D α)×Obs α→List (List (D α)×Obs α)→List (Oper×(List (D α)×Obs α)×(List (D α)×Obs α))
  | o::r,s,s'::l=>(o,s,s')::stepsW r s' l
  | _,_,_=>[]
def runC (X:Ctx α) (F:List Nat):List (Oper×(List (D α)×Obs α)×(List (D α)×Obs α))→Option (List (Option Nat))
  | []=>some []
  | (o,s,s')::r=>bif o.guard.isNone&&(bif isCall o then closedCall X s.1 o&&closedRes s'.1 o else okC0 X F s.1 s.2 o) then (match runC X F r with
      | some l=>some (touchC X s.1 o::l)
      | none=>none) else none
def freeT (F:List Nat):Nat→List (D α)→Bool
  | _,[]=>true
  | i,d::r=>(freeD F d||(match d with
    | .ptr n _=>Nat.beq n i
    | _=>false))&&freeT F (i+1) r
def freeH (F:List Nat):Obs α→Bool
  | []=>true
  | (_,.box _ cs)::r=>freeL F cs&&freeH F r
  | (_,.arr _ _)::r=>freeH F r
  | (_,.map _ _)::r=>freeH F r
def sameO:Option Nat→Option Nat→Bool
  | some a,some b=>Nat.beq a b
  | _,_=>false
def makers:List Oper→List Nat
  | []=>[]
  | o::r=>match o.op,o.dst with
    | .alloc _,some d=>d::makers r
    | .box _ _,some d=>d::makers r
    | _,_=>makers r
def drawC (X:Ctx α) (ops:Array Oper) (lg:List (List (D α)×Obs α)) (tm:List (D α)) (hs:Obs α):Bool :=
  let F:=makers ops.toList
  let n:=ops.size
  let pres:=presOf ops.toList []
  freeT F 0 tm&&freeH F hs&&backOK 0 ops.toList&&match runC X F (stepsW ops.toList (tm,hs) lg) with
    | none=>false
    | some tl=>(List.range n).all fun j=>(List.range j).all fun i =>
      hasBit ((pres[j]?).getD 0) i ||
      (match ops[i]?,ops[j]? with
       | some a,some b=>!(sameO ((tl[i]?).getD none) ((tl[j]?).getD none))&&(match a.dst with
           | some d=>!(memN (tmpsOf ops b) d)
           | none=>true)&&(match b.dst with
           | some d=>!(memN (tmpsOf ops a) d)
           | none=>true)
       | _,_=>false)
def strSl (P:Program) (o:Oper):Bool:=match o.op with
  | .slice t _ _ _ _=>strT P t
  | _=>false
def readsOld (X:Ctx α) (K:List Nat) (yet:Nat→Bool) (hs0:Obs α) (tm:List (D α)) (o:Oper):Bool:=match o.op with
  | .load _ a=>(match evK X tm [] a with
    | .ptr n _=>yet n&&(match look hs0 n with
      | some (.box _ cs)=>freeL K cs
      | _=>false)
    | .ref _=>true
    | _=>false)
  | _=>false
def freshOp (X:Ctx α) (tm:List (D α)) (o:Oper):Bool:=match o.op with
  | .buildSlice _ _ ps=>closedL (ps.toList.map fun x=>evK X tm [] x.2)
  | .convert _ _ x=>closed (evK X tm [] x)
  | .indexAddr _ x _=>closed (evK X tm [] x)
  | .slice t x _ _ _=>slOk X t (evK X tm [] x)
  | _=>false
def hoistOk (X:Ctx α) (ops:Array Oper) (K:List Nat) (yet:Nat→Bool) (sl:List Nat) (tm0:List (D α)) (hs0:Obs α) (hsl:List Nat) (tm:List (D α)) (hs:Obs α) (o:Oper):Bool :=
  ((pureOp o||(strSl X.P o||freshOp X tm o))||readsOld X K yet hs0 tm o)&&((tmpsOf ops o).all (fun u=>memN hsl u||(!(memN sl u)&&freeD K (getT tm0 u)))&&freeD K (evalOp X tm hs [] o).d)
def writesOf (X:Ctx α) (tm:List (D α)) (hs:Obs α) (o:Oper):Option (List Nat×List Nat):=match (evalOp X tm hs [] o).ch with
  | none=>some ([],[])
  | some _=>match o.op,o.dst with
    | .store _ a _,none=>(match evK X tm [] a with
      | .ptr n _=>some ([],[n])
      | .epr n _ _=>some ([],[n])
      | _=>none)
    | .mapUpdate _ m _ v,none=>(match evK X tm [] m,lendAll X.C hs [evK X tm [] v] with
      | .mp n,some (_,ns)=>some ([],n::ns)
      | _,_=>none)
    | .call { callee:=.builtin .append,args,.. },some d=>(match args.toList.map (evK X tm []) with
      | .arr n::_=>some ([n,d],[])
      | _::_=>some ([d],[])
      | []=>none)
    | _,_=>none
def newNames (hs hs1:Obs α):List Nat:=(hs1.map (·.1)).filter fun m=>(look hs m).isNone
def callW (X:Ctx α) (tm:List (D α)) (hs hs1:Obs α) (o:Oper):Option (List Nat×List Nat):=match callOfM X tm hs [] o with
  | some (_,tops,nests,_,_,ns)=>some (nests.map (·.1),tops.map (·.1)++(ns++newNames hs hs1))
  | none=>match callOf X tm hs [] o with
    | some (_,_,ns)=>some ([],ns++newNames hs hs1)
    | none=>none
def writesW (X:Ctx α) (tm:List (D α)) (hs hs1:Obs α) (o:Oper):Option (List Nat×List Nat):=bif isCall o then callW X tm hs hs1 o else writesOf X tm hs o
def runW (X:Ctx α):List (Oper×(List (D α)×Obs α)×(List (D α)×Obs α))→Option (List (List Nat×List Nat))
  | []=>some []
  | (o,s,s')::r=>bif o.guard.isNone then (match writesW X s.1 s.2 s'.2 o with
    | none=>none
    | some l=>(match runW X r with
      | some m=>some (l::m)
      | none=>none)) else none
def keysW:List (List Nat×List Nat)→List Nat
  | []=>[]
  | l::r=>l.1++keysW r
def yetW (pres:List Nat) (wl:List (List Nat×List Nat)) (i n:Nat):Bool:=(List.range wl.length).all fun j=>(match wl[j]? with
  | some l=>!(memN (l.1++l.2) n)
  | none=>true)||hasBit ((pres[j]?).getD 0) i
def walkW (X:Ctx α) (ops:Array Oper) (K:List Nat) (yet:Nat→Nat→Bool) (sl:List Nat) (tm0:List (D α)) (hs0:Obs α):Nat→List Nat→List (Oper×(List (D α)×Obs α)×(List (D α)×Obs α))→List Bool
  | _,_,[]=>[]
  | i,hsl,(o,s,_)::r =>
    let h:=hoistOk X ops K (yet i) sl tm0 hs0 hsl s.1 s.2 o
    h::walkW X ops K yet sl tm0 hs0 (i+1) (bif h then (match o.dst with
      | some d=>d::hsl
      | none=>hsl) else hsl) r
def drawW (X:Ctx α) (ops:Array Oper) (ws:List Nat) (lg:List (List (D α)×Obs α)) (tm:List (D α)) (hs:Obs α):Bool :=
  let n:=ops.size
  let sl:=ops.toList.filterMap (·.dst)
  let pres:=presOf ops.toList []
  let st:=stepsW ops.toList (tm,hs) lg
  match runW X st with
  | none=>false
  | some wl =>
    let hb:=walkW X ops (keysW wl) (yetW pres wl) sl tm hs 0 [] st
    (backOK 0 ops.toList&&(List.range n).all fun j=>(List.range j).all fun i =>
      hasBit ((pres[j]?).getD 0) i||(match ops[i]?,ops[j]? with
        | some a,some b=>(((hb[i]?).getD false||(hb[j]?).getD false)||(!(memN ws i)&&!(memN ws j)))&&(match a.dst with
            | some d=>!(memN (tmpsOf ops b) d)
            | none=>true)&&(match b.dst with
            | some d=>!(memN (tmpsOf ops a) d)
            | none=>true)
        | _,_=>false)) &&
    (List.range n).all fun k=>(List.range (k+1)).all fun i=>match ops[i]?,ops[k]? with
      | some a,some b=>(match b.dst with
        | some d=>!(memN (tmpsOf ops a) d)||(hasBit ((pres[k]?).getD 0) i&&!((hb[k]?).getD false))
        | none=>true)
      | _,_=>true
inductive Ex where
  | normal
  | exit (id:Nat)
  | ret
structure St (α:Type) where
  tm:List (D α)
  hs:Obs α
def loopD {γ:Type} (B:St α→(Ex→St α→Option γ)→Option γ):Nat→St α→(Ex→St α→Option γ)→Option γ
  | 0,_,_=>none
  | n+1,S,k=>B S fun e S'=>match e with
    | .normal=>loopD B n S' k
    | e=>k e S'
def firstId:Code→Nat
  | .region id _ _=>id
  | .seq a _=>firstId a
  | .cond _ a _=>firstId a
  | .block _ b=>firstId b
  | .loop b=>firstId b
  | _=>0
def loopsOf:Code→List Code
  | .seq a b=>loopsOf a++loopsOf b
  | .cond _ a b=>loopsOf a++loopsOf b
  | .block _ b=>loopsOf b
  | .loop b=>b::loopsOf b
  | _=>[]
inductive LR (α:Type) where
  | leaf (e:Ex) (S:St α)
  | ite (c:Bool) (x y:LR α)
def pickR:LR α→Ex×St α
  | .leaf e S=>(e,S)
  | .ite c x y=>bif c then pickR x else pickR y
def runR {γ:Type}:LR α→(Ex→St α→Option γ)→Option γ
  | .leaf e S,k=>k e S
  | .ite c x y,k=>br c (runR x k) (runR y k)
abbrev LK (α:Type):=Nat→St α→Option (Bool×LR α)
def allDst (ops:Array Oper):List (Option Nat):=ops.toList.map (·.dst)
def exec {γ:Type} (X:Ctx α) (RK:CK α γ) (L:LK α):Code→St α→(Ex→St α→Option γ)→Option γ
  | .skip,S,k=>k .normal S
  | .region _ ops draw,S,k =>
    chk (distinctD (allDst ops)||(!draw&&ops.all (fun o=>o.guard.isNone))) (runL X RK ops 0 ops.toList S.tm S.hs [] [] fun tm hs ws lg =>
      chk (!draw||((drawOK ops ws||drawB X.noM ops ws)||(drawC X ops lg S.tm S.hs||drawW X ops ws lg S.tm S.hs))) (k .normal ⟨bif ops.all (fun o=>o.guard.isNone) then tm else tm.map ungd,hs⟩))
  | .seq a b,S,k=>exec X RK L a S fun e S'=>match e with
    | .normal=>exec X RK L b S' k
    | e=>k e S'
  | .cond c a b,S,k=>match evK X S.tm [] c with
    | .bool t=>br t (exec X RK L a S k) (exec X RK L b S k)
    | _=>none
  | .block id body,S,k=>exec X RK L body S fun e S'=>match e with
    | .exit id'=>bif Nat.beq id' id then k .normal S' else k (.exit id') S'
    | e=>k e S'
  | .loop body,S,k=>match L (firstId body) S with
    | some (b,r)=>chk b (runR r k)
    | none=>loopD (fun S k=>exec X RK L body S k) X.N S k
  | .exit id,S,k=>k (.exit id) S
  | .ret,S,k=>k .ret S
  | _,_,_=>none
def resultOf (X:Ctx α) (S:St α):ResultVar→Option (D α)
  | .tmp t=>some (strip [] (getT S.tm t))
  | .cell a t=>match cellsAt X.C S.hs (strip [] (getT S.tm a)) with
    | some (cs,off)=>loadD X.P t cs off
    | none=>none
def resultsOf (X:Ctx α) (S:St α):List ResultVar→Option (List (D α))
  | []=>some []
  | r::l=>match resultOf X S r,resultsOf X S l with
    | some d,some ds=>some (d::ds)
    | _,_=>none
def packR:List (D α)→D α
  | [d]=>d
  | ds=>.tup ds
def ownAt (hs:Obs α):D α→Option Nat
  | .arr o=>match look hs o with
    | some (.arr false _)=>some o
    | _=>none
  | _=>none
def ownIn (hs:Obs α):Nat→List (D α)→Option (Nat×Nat)
  | _,[]=>none
  | i,d::r=>match ownAt hs d with
    | some o=>some (i,o)
    | none=>ownIn hs (i+1) r
def ownOf (hs:Obs α):Nat→List (D α)→Option (List Nat×Nat)
  | _,[]=>none
  | i,d::r=>match ownAt hs d with
    | some o=>some ([i],o)
    | none=>match d with
      | .agg cs=>match ownIn hs 0 cs with
        | some (j,o)=>some ([i,j],o)
        | none=>ownOf hs (i+1) r
      | _=>ownOf hs (i+1) r
def finOwn (X:Ctx α) (hs:Obs α) (ds:List (D α)) (k:List Nat) (o:Nat):Option (D α) :=
  match look hs o,atP k (.tup ds) with
  | some (.arr false p),some (.arr o')=>bif Nat.beq o o' then (match lend X.C hs 40 (putP k .nilS (.tup ds)) with
    | some (l,ns)=>bif memN ns o||!(closed l) then none else (match atP k l,l,k with
      | some .nilS,.tup [d],0::r=>some (.ow r (putP r (.pl p .any) d))
      | some .nilS,.tup (_::_::_),_=>some (.ow k (putP k (.pl p .any) l))
      | _,_,_=>none)
    | none=>none) else none
  | _,_=>none
def finD (X:Ctx α) (fn:Func) (S:St α):Option (D α) :=
  match resultsOf X S fn.results.toList with
  | some ds=>match bif X.own then (match ownOf S.hs 0 ds with
      | some (k,o)=>finOwn X S.hs ds k o
      | none=>none) else none with
    | some d=>some d
    | none=>match lendAll X.C S.hs ds with
      | some (l,_)=>bif closedL l then some (packR l) else none
      | none=>none
  | none=>none
def fnK {γ:Type} (X:Ctx α) (RK:CK α γ) (L:LK α) (fn:Func) (args:List (D α)) (k:D α→Option γ):Option γ :=
  match fn.body with
  | some c=>exec X RK L c ⟨args++List.replicate (fn.ntmps - args.length) .bad,[]⟩ fun e S=>match e with
    | .exit _=>none
    | _=>match finD X fn S with
      | some d=>k d
      | none=>none
  | none=>none
mutual
def ptrsD (own:Bool):D α→List Nat
  | .ptr o _=>[o]
  | .arr o=>bif own then [o] else []
  | .agg cs | .tup cs | .fn _ cs=>ptrsL own cs
  | .ifc _ d=>ptrsD own d
  | _=>[]
def ptrsL (own:Bool):List (D α)→List Nat
  | []=>[]
  | d::r=>ptrsD own d++ptrsL own r
end
def finM (X:Ctx α) (fn:Func) (H:Obs α) (S:St α):Option (D α) :=
  match resultsOf X S fn.results.toList with
  | some ds =>
    let tops:=(H.filter fun x=>Nat.blt x.1 100000).map fun x=>(x.1,x.1)
    let nw:=nmFrom 90000000 ((boxesOf S.hs 64 (ptrsL X.own ds++tops.map (·.1)) []).filter fun o=>!(memNat (tops.map (·.1)) o))
    match packE X.C S.hs (tops++(nw++nestsOf S.hs inNest (tops++nw))) ds with
    | some (H',l,_)=>bif tops.all (topOk H) then some (.env (encH H') (packR l)) else none
    | none=>none
  | none=>none
def fnM {γ:Type} (X:Ctx α) (RK:CK α γ) (L:LK α) (fn:Func) (H:Obs α) (args:List (D α)) (k:D α→Option γ):Option γ :=
  match fn.body with
  | some c=>exec X RK L c ⟨args++List.replicate (fn.ntmps - args.length) .bad,H⟩ fun e S=>match e with
    | .exit _=>none
    | _=>match finM X fn H S with
      | some d=>k d
      | none=>none
  | none=>none
end
end Go.Eng
