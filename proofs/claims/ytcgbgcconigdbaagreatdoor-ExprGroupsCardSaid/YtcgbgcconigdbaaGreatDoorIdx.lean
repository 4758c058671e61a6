/-
 strings.IndexAny OF ANY BYTES, where what is looked for is four bytes below 128: the library's own text, walked.
-/
import Derived.Test.YtcgbgcconigdbaaGreatDoorLook
import Derived.Lib.AtoiErrMem
import Derived.Lib.ParseIntBTie
import Derived.Shelf.Strings.IndexAnyAll
import Derived.Shelf.Small.Utf8
import Derived.Laws.RangeAny
import Derived.Laws.Runes
import Derived.Lib.IndexLaws
import Derived.BigQuiet
import Derived.Shelf.RegionOpenPlain
import Derived.Lib.OthersKept
namespace Go.Proofs.YtcgbgcconigdbaaGreatDoor.Nu
open Go.Eng
set_option maxRecDepth 100000
abbrev u64 (z:Int):Int:=IntKind.u64.wrap z
theorem ifa_at {w:World} {av:Nat→Prop} (h:GlobOk X0.C X0.glob w av) {g:Nat} (hg:X0.glob g=some [.ifa]):∃t v,w.cell? ⟨g,0,none⟩=some (.iface t v):=by
 obtain ⟨hr,_⟩:=h g _ hg
 generalize hp:Value.pointer (some ⟨g,0,none⟩)=p at hr
 cases hr with
 | ref _ _ _ vs _ hc _ hrd =>
  cases hp
  have h1:=hc 0 _ rfl
  have h2:=hrd 0 _ rfl
  generalize vs 0=v at h1 h2
  cases h2
  exact ⟨_,_,h1⟩
def pOk (s:Str):Bool:=match Lib.parseIntB 64 s with
 | .ok _=>true
 | _=>false
def pVal (s:Str):Int:=match Lib.parseIntB 64 s with
 | .ok v=>v
 | .range=>Lib.intSat 64 s
 | _=>0
theorem pVal_in (s:Str):inR .i64 (pVal s)=true:=by
 have key:-9223372036854775808≤pVal s∧pVal s≤9223372036854775807:=by
  unfold pVal
  split
  ·rename_i v h
   unfold Lib.parseIntB at h
   split at h
   ·cases h
   ·simp only at h
    split at h
    ·cases h
    ·cases h
    ·rename_i u _
     split at h
     ·cases h
     ·split at h
      ·cases h
      ·rename_i h1 h2
       simp only [Lib.NumEnd.ok.injEq] at h
       subst h
       split
       ·rename_i h3;rw [h3] at h2;simp at h2;omega
       ·rename_i h3;simp only [h3,not_false_eq_true,true_and] at h1;simp at h1;omega
  ·unfold Lib.intSat;split<;>omega
  ·omega
 simp only [inR,Bool.and_eq_true]
 exact ⟨decide_eq_true key.1,decide_eq_true key.2⟩
theorem parse_args {w:World} {av:Nat→Prop} {s:Str} {vs:Array Value} (hs:vs.size=3) (hr:∀(i:Nat) v c,vs[i]?=some v→[(.str s:D Pl),dI 10,dI 64][i]?=some c→RD X0.C (cx0 w av) v c) :
  ∃b:ByteArray,vs=#[.string b,.int .i64 10,.int .i64 64]∧b.data.toList=s∧b.size≤140737488355328:=by
 obtain ⟨v0,v1,v2,rfl⟩:∃v0 v1 v2,vs=#[v0,v1,v2]:=by
  obtain ⟨l⟩:=vs
  match l,hs with
  | [a,b,c],_=>exact ⟨a,b,c,rfl⟩
 have h0:=hr 0 _ _ rfl rfl
 have h1:=hr 1 _ _ rfl rfl
 have h2:=hr 2 _ _ rfl rfl
 cases h1;cases h2
 cases h0 with
 | str b l h hl=>exact ⟨b,rfl,h,by rw [←h,Array.length_toList] at hl;exact hl⟩
theorem parse_ok (s:Str) (h:pOk s=true):Snd 42 [.str s,dI 10,dI 64] (.tup [dI (pVal s),.nilI]):=by
 refine snd_calls Tryz.func42 (by kernel_rfl) (by kernel_rfl) rfl fun w av vs hg hs hr=>?_
 obtain ⟨b,rfl,rfl,hb⟩:=parse_args hs hr
 obtain ⟨v,hv⟩:∃v,Lib.parseIntB 64 b.data.toList=.ok v:=by
  unfold pOk at h
  split at h
  ·exact ⟨_,by assumption⟩
  ·cases h
 have hp:pVal b.data.toList=v:=by unfold pVal;rw [hv]
 have hin:=pVal_in b.data.toList
 rw [hp] at hin ⊢
 refine (Any.strconv_ParseInt_10_at64_ok Tryz.laysC174 b (by omega) v hv w).mono fun e w' ⟨he,hw⟩=>⟨_,he,?_,?_⟩
 ·refine .tup _ _ rfl fun i v' c h1 h2=>?_
  match i,h1,h2 with
  | 0,h1,h2=>simp at h1 h2;subst h1 h2;exact .int _ _ hin
  | 1,h1,h2=>simp at h1 h2;subst h1 h2;exact .nilI
  | i+2,h1,h2=>simp at h2
 ·rcases hw with rfl | ⟨t,rfl⟩
  ·exact RowKit.Below.refl _ _
  ·exact Lib.bytesWorld_below _ _ _
theorem parse_no (s:Str) (h:pOk s=false):Snd 42 [.str s,dI 10,dI 64] (.tup [dI (pVal s),.ifa]):=by
 refine snd_calls Tryz.func42 (by kernel_rfl) (by kernel_rfl) rfl fun w av vs hg hs hr=>?_
 obtain ⟨b,rfl,rfl,hb⟩:=parse_args hs hr
 have hin:=pVal_in b.data.toList
 have fin:∀{t:TypeId} {v:Value} {x:Int} {w':World},pVal b.data.toList=x→RD X0.C (cx0 w' av) (.tuple #[.int .i64 x,.iface t v]) (.tup [dI (pVal b.data.toList),.ifa]):=by
  intro t v x w' hx
  subst hx
  refine .tup _ _ rfl fun i v' c h1 h2=>?_
  match i,h1,h2 with
  | 0,h1,h2=>simp at h1 h2;subst h1 h2;exact .int _ _ hin
  | 1,h1,h2=>simp at h1 h2;subst h1 h2;exact .ifa _ _
  | i+2,h1,h2=>simp at h2
 cases hv:Lib.parseIntB 64 b.data.toList with
 | ok v=>unfold pOk at h;rw [hv] at h;cases h
 | range =>
  obtain ⟨t,v,hc⟩:=ifa_at hg (g:=2) rfl
  refine (Any.strconv_ParseInt_10_at64_range Tryz.laysC174 b (by omega) hv _ w hc (Or.inr ⟨_,_,rfl⟩)).mono fun e w' ⟨N,he,_,_,hw⟩=>⟨_,he,fin ?_,hw⟩
  unfold pVal;rw [hv]
 | _ =>
  obtain ⟨t,v,hc⟩:=ifa_at hg (g:=1) rfl
  refine (Any.strconv_ParseInt_10_at64_syntax Tryz.laysC174 b (by omega) hv _ w hc (Or.inr ⟨_,_,rfl⟩)).mono fun e w' ⟨N,he,_,_,hw⟩=>⟨_,he,fin ?_,hw⟩
  unfold pVal;rw [hv]
def badD (c:Int):Bool:=bif decide (c < 48) then true else decide (c > 57)
def allB (P:Int→Bool) (s:Str):Bool:=(List.range s.length).all fun i=>P (byt s i)
def digB (s:Str):Bool:=allB (fun c=>!(badD c)) s
def s32 (s:Str) (i:Int):St Pl:=mkS 45 [(0,.str s),(2,.bool false),(30,dI s.length),(31,dI i)] []
def r32:St Pl:=mkS 45 [(2,.bool false)] []
theorem b32 (s:Str) (i:Nat):evC tell0 noTL noL 1 (loopAt 41 0) [0,2,30,31] (s32 s i) =
  lt_ i s.length (ix_ i s.length (ixo_ i s.length (decide (byt s i < 48)==false) (bif badD (byt s i) then some (.ret,s32 s i) else some (.normal,s32 s (IntKind.i64.wrap ((i:Int)+1)))))) (some (.exit 0,s32 s i)):=by kernel_rfl
theorem ids32:(loopsAt 41).length=1∧firstId (loopAt 41 0)=8∧loopsOf (loopAt 41 0)=[]:=⟨by kernel_rfl,by kernel_rfl,by kernel_rfl⟩
def LS32 (S:St Pl):Option (Bool×LR Pl):=match seenS 45 [0,2,30,31] S with
 | some ([.str s,.bool false,.int .i64 n,.int .i64 (.ofNat 0)],[])=>some (n==(s.length:Int)&&Nat.ble s.length big,.ite (digB s) (.leaf (.exit 0) r32) (.leaf .ret r32))
 | _=>none
theorem LS32_ok:SOk X0 (loopAt 41 0) LS32:=by
 intro S b r h hb
 unfold LS32 at h
 split at h
 ·rename_i s n hs
  simp only [Option.some.injEq,Prod.mk.injEq] at h
  obtain ⟨rfl,rfl⟩:=h
  simp only [Bool.and_eq_true,Nat.ble_eq,beq_iff_eq] at hb
  obtain ⟨rfl,hb⟩:=hb
  refine Goes.pre (keepOf [0,2,30,31]) ?_
  rw [seenS_mask hs]
  exact search_of (tell0_ok _) ids32.2.2 (Sf:=fun i=>s32 s i) (S2':=fun i=>s32 s i) (keep2:=[2]) (p:=fun i=>!(badD (byt s i))) (by simp) (by simp)
   (fun i hi=>by
    rw [b32,lt_t hi,ix_t hi,wrap_nat (show i≤big by omega),ixo_t hi]
    cases badD (byt s i)<;>rfl) (by rw [b32,lt_f (by omega)]) rfl (fun i=>rfl)
 ·simp at h
def t1 (s:Str):Str:=List.take (((s.length:Int)).toNat - Int.toNat 1) (List.drop (Int.toNat 1) s)
theorem t1_eq (s:Str):t1 s=s.drop 1:=by
 unfold t1
 rw [show Int.toNat 1=1 from rfl,show ((s.length:Int)).toNat=s.length from rfl]
 exact List.take_of_length_le (by simp)
def negW (s:Str):Bool:=bif decide ((s.length:Int) > 1) then byt s 0==45 else false
def zeroL (s:Str):Bool:=bif s==[] then true else bif byt s 0==48 then decide ((s.length:Int) > 1) else false
def restW (s:Str):Option (D Pl):=ck_ ((true&&decide ((0:Int) < (s.length:Int)))||!((s==[])==false)) (bif zeroL s then some (.bool false) else ck_ (((s.length:Int)==(s.length:Int))&&Nat.ble s.length big) (bif digB s then some (.bool true) else some (.bool false)))
theorem e32 (s:Str):evF tell0 noTL (atL 8 LS32 noL) 1 Tryz.f41 [.str s]=ck_ ((true&&decide ((0:Int) < (s.length:Int)))||!(decide ((s.length:Int) > 1)==true))
  (bif negW s then ck_ ((true&&decide ((1:Int)≤(s.length:Int))&&decide ((s.length:Int)≤(s.length:Int)))||false) (ck_ ((true&&decide ((0:Int) < ((t1 s).length:Int)))||false) (bif byt (t1 s) 0==48 then some (.bool false) else restW (t1 s))) else restW s):=by kernel_rfl
def wholeV (s:Str):Bool:=bif negW s then (bif byt (t1 s) 0==48 then false else bif zeroL (t1 s) then false else digB (t1 s)) else bif zeroL s then false else digB s
theorem restW_eq {s:Str} (h:s.length≤big):restW s=some (.bool (bif zeroL s then false else digB s)):=by
 unfold restW
 rw [ck_t (by
  cases s with
  | nil=>rfl
  | cons a r=>rw [decide_eq_true (show (0:Int) < ((a::r).length:Int) by simp only [List.length_cons];omega)];rfl),
  ck_t (by rw [ble_t h,beq_self_eq_true];rfl)]
 cases zeroL s<;>cases digB s<;>rfl
theorem t1_len (s:Str):(t1 s).length=s.length - 1:=by rw [t1_eq,List.length_drop]
theorem whole_sound (s:Str):Snd 41 [.str s] (.bool (wholeV s)):=by
 refine SoundAt.rooms fun hroom=>snd_fn (n:=1) (tell0_ok _) (noTL_ok _ _) (fn:=Tryz.f41) (by kernel_rfl) (loops_of (fn:=Tryz.f41) (by kernel_rfl) (loops_1 ids32.1 (atL_ok (fun _=>LS32_ok) fun h=>absurd ids32.2.1 h))) ((e32 s).trans ?_)
 have h1:s.length≤big:=hroom (.str s) (by simp)
 have h2:(t1 s).length≤big:=by rw [t1_len];omega
 rw [restW_eq h1,restW_eq h2,ck_t (by
  by_cases h:s.length > 1
  ·rw [decide_eq_true (show (0:Int) < (s.length:Int) by omega)];rfl
  ·rw [decide_eq_false (show ¬ (s.length:Int) > 1 by omega)];cases decide ((0:Int) < (s.length:Int))<;>rfl)]
 unfold wholeV
 cases hn:negW s with
 | false=>rfl
 | true =>
  have hl:s.length > 1:=by
   unfold negW at hn
   by_cases h:s.length > 1
   ·exact h
   ·rw [decide_eq_false (show ¬ (s.length:Int) > 1 by omega)] at hn;cases hn
  rw [ck_t (by rw [decide_eq_true (show (1:Int)≤(s.length:Int) by omega),decide_eq_true (show (s.length:Int)≤(s.length:Int) by omega)];rfl),
   ck_t (by rw [decide_eq_true (show (0:Int) < ((t1 s).length:Int) by rw [t1_len];omega)];rfl)]
  cases byt (t1 s) 0==48<;>rfl
def tW (R:Eng.Told Pl):Eng.Told Pl:=tell 41 (pS fun s=>.bool (wholeV s)) R
theorem tW_ok {R:Eng.Told Pl} (h:TOk R):TOk (tW R):=tell_ok (pS_ok whole_sound) h
def pI1:List (D Pl)→Option (Bool×D Pl)
 | [.str s,.int .i64 (.ofNat 10),.int .i64 (.ofNat 64)]=>some (pOk s,.tup [dI (pVal s),.nilI])
 | _=>none
def pI2:List (D Pl)→Option (Bool×D Pl)
 | [.str s,.int .i64 (.ofNat 10),.int .i64 (.ofNat 64)]=>some (!(pOk s),.tup [dI (pVal s),.ifa])
 | _=>none
theorem pI1_ok:∀ds b d,pI1 ds=some (b,d)→b=true→Snd 42 ds d:=by
 intro ds b d h hb
 unfold pI1 at h
 split at h
 ·simp only [Option.some.injEq,Prod.mk.injEq] at h;obtain ⟨rfl,rfl⟩:=h;exact parse_ok _ hb
 ·simp at h
theorem pI2_ok:∀ds b d,pI2 ds=some (b,d)→b=true→Snd 42 ds d:=by
 intro ds b d h hb
 unfold pI2 at h
 split at h
 ·simp only [Option.some.injEq,Prod.mk.injEq] at h;obtain ⟨rfl,rfl⟩:=h;exact parse_no _ (by simpa using hb)
 ·simp at h
theorem e17a (s:Str):evF (tW (tell 42 pI1 tell0)) noTL noL 1 Tryz.f35 [.str s]=bif !(wholeV s) then some (.tup [dI 0,dI 4]) else ck_ (pOk s) (some (.tup [dI (pVal s),dI 0])):=by kernel_rfl
theorem e17b (s:Str):evF (tW (tell 42 pI2 tell0)) noTL noL 1 Tryz.f35 [.str s]=bif !(wholeV s) then some (.tup [dI 0,dI 4]) else ck_ (!(pOk s)) (some (.tup [dI 0,dI 6])):=by kernel_rfl
def parseV (s:Str):Int×Int:=bif wholeV s then (bif pOk s then (pVal s,0) else (0,6)) else (0,4)
def prT (p:Int×Int):D Pl:=.tup [dI p.1,dI p.2]
theorem parse_sound (s:Str):Snd 35 [.str s] (prT (parseV s)):=by
 have hl:(loopsAt 35).length=0:=by kernel_rfl
 cases h:pOk s with
 | true =>
  refine snd_fn (n:=1) (tW_ok (tell_ok pI1_ok (tell0_ok _))) (noTL_ok _ _) (fn:=Tryz.f35) (by kernel_rfl) (loops_of (fn:=Tryz.f35) (by kernel_rfl) (loops_0 hl)) ((e17a s).trans ?_)
  unfold parseV
  rw [h]
  cases wholeV s<;>rfl
 | false =>
  refine snd_fn (n:=1) (tW_ok (tell_ok pI2_ok (tell0_ok _))) (noTL_ok _ _) (fn:=Tryz.f35) (by kernel_rfl) (loops_of (fn:=Tryz.f35) (by kernel_rfl) (loops_0 hl)) ((e17b s).trans ?_)
  unfold parseV
  rw [h]
  cases wholeV s<;>rfl
end Go.Proofs.YtcgbgcconigdbaaGreatDoor.Nu
namespace Go.Proofs.YtcgbgcconigdbaaGreatDoor
open Go.Shelf Go.RowKit Go.Lib Go.Proofs
variable {P:Program} {ρ:Ren}
theorem drewN_below (w:World) (n:Nat):Below w.heap.size w (w.drewN n):=by
 induction n with
 | zero=>exact Below.refl _ _
 | succ n ih=>exact ih.drew
theorem byteNone (l:List UInt8) (c:UInt8) (h:∀b∈l,b.toNat < 128) (hc:128≤c.toNat):Lib.indexByte l c=-1:=by
 induction l with
 | nil=>rfl
 | cons b l ih =>
  have h1:=h b (by simp)
  have hb:(b==c)=false:=beq_eq_false_iff_ne.2 fun e=>by rw [e] at h1;omega
  have:=ih fun x hx=>h x (by simp [hx])
  simp [Lib.indexByte,hb,this]
set_option maxHeartbeats 4000000 in
set_option maxRecDepth 1000000 in
theorem indexRune_err (L:Lays.n152 P ρ) (s:ByteArray) (w:World) (hs:∀(j:Nat) b,s.data.toList[j]?=some b→b.toNat < 128) :
  Calls P (ρ.f 152) #[.string s,.int .i32 65533] w fun e w'=>e=.returned (.int .i64 (-1))∧∃pos,w'=w.iter s pos:=by
 have HA:Aside (∀(j:Nat) b,s.data.toList[j]?=some b→b.toNat < 128):=hs
 clear hs
 have mixed:=L.mixed
 have t3:=L.t3;have a3:=L.a3;have z3:=L.z3;have v3:=L.v3
 have t4:=L.t4;have a4:=L.a4;have z4:=L.z4;have v4:=L.v4
 have t5:=L.t5;have a5:=L.a5;have z5:=L.z5;have v5:=L.v5
 have t9:=L.t9;have a9:=L.a9;have z9:=L.z9;have v9:=L.v9
 have t21:=L.t21;have a21:=L.a21;have z21:=L.z21;have v21:=L.v21
 go_enter L.f152,Body.n152_ntmps ρ
 go_wp2
 go_loopg [5,6] s.size (fun g _ _ wx=>∃i:Nat,i+g=s.size∧wx=w.iter s i)
 case atStart=>exact ⟨0,by omega,rfl⟩
 case round =>
  obtain ⟨i,hig,rfl⟩:=hrel
  cases gk with
  | zero =>
   obtain rfl:i=s.size:=by omega
   have hnx:=run_next_end (P:=P) w s s.size
   go_wp2
   go_ret
   exact ⟨rfl,_,rfl⟩
  | succ g =>
   have hi:i < s.size:=by omega
   obtain ⟨x,hx⟩:∃x:UInt8,s[i]'hi=x:=⟨_,rfl⟩
   have hxl:s.data.toList[i]?=some x:=by rw [←hx];exact Lib.data_getElem? s i hi
   have hx128:x.toNat < 128:=HA.out i x hxl
   have hnx:=fun ty=>run_next_ascii (P:=P) w s i ty hi (by rw [hx];exact hx128)
   rw [hx] at hnx
   have hne:((x.toNat:Int)==65533)=false:=beq_eq_false_iff_ne.2 (by omega)
   clear hxl hx
   go_wp2
   go_roundg g
   case measure=>omega
   case rel=>exact ⟨i+1,by omega,rfl⟩
set_option maxHeartbeats 4000000 in
set_option maxRecDepth 1000000 in
theorem indexRune_two (L:Lays.n152 P ρ) (a b c d x y:UInt8) (r:Int) (w:World) (hv:Lib.validRune r=true) (h128:128≤r) (hr:r≠65533) (he:Utf8.encode r=⟨#[x,y]⟩) (hy:128≤y.toNat)
  (hs:∀z∈(⟨#[a,b,c,d]⟩:ByteArray).data.toList,z.toNat < 128) :
  Calls P (ρ.f 152) #[.string ⟨#[a,b,c,d]⟩,.int .i32 r] w fun e w'=>e=.returned (.int .i64 (-1))∧Below w.heap.size w w':=by
 have hby:b≠y:=fun e=>by have:=hs b (by simp);rw [e] at this;omega
 have hcall:∀W,Calls P (ρ.f 137) #[.string ((⟨#[a,b,c,d]⟩:ByteArray).extract 2 4),.int .u8 (y.toNat:Int)] W fun e w'=>e=.returned (.int .i64 (-1))∧w'=W:=fun W =>
  (Any.strings_IndexByte { L with } _ _ W).mono (by
   rintro e w' ⟨rfl,h⟩
   rw [byteNone _ _ (fun z hz=>hs z (mem_extract hz)) (by simpa using hy)]
   exact ⟨rfl,h⟩)
 have HC:Aside (∀W,Calls P (ρ.f 137) #[.string ((⟨#[a,b,c,d]⟩:ByteArray).extract 2 4),.int .u8 (y.toNat:Int)] W fun e w'=>e=.returned (.int .i64 (-1))∧w'=W):=hcall
 clear hs hcall
 have mixed:=L.mixed
 have t3:=L.t3;have a3:=L.a3;have z3:=L.z3;have v3:=L.v3
 have t4:=L.t4;have a4:=L.a4;have z4:=L.z4;have v4:=L.v4
 have t5:=L.t5;have a5:=L.a5;have z5:=L.z5;have v5:=L.v5
 have t9:=L.t9;have a9:=L.a9;have z9:=L.z9;have v9:=L.v9
 have t21:=L.t21;have a21:=L.a21;have z21:=L.z21;have v21:=L.v21
 have e119:∀args w,(callFunc (ρ.f 119) args).run P w=.ok (.enter (ρ.f 119) args) w:=enters_of L.f119 (by kernel_rfl) rfl
 have e137:∀args w,(callFunc (ρ.f 137) args).run P w=.ok (.enter (ρ.f 137) args) w:=enters_of L.f137 (by kernel_rfl) rfl
 have hn:¬ (r < 128):=by omega
 have h65:(r==65533)=false:=beq_eq_false_iff_ne.2 hr
 have hcv:∀w,(convert (ρ.t 21) (ρ.t 9) (.int .i32 r)).run P w=.ok (.string ⟨#[x,y]⟩) w:=fun w=>by
  rw [run_convert_int_string w _ _ _ _ (by rw [t21];rfl) t9,he]
 have hsz2:(⟨#[x,y]⟩:ByteArray).size=2:=rfl
 have hsz4:(⟨#[a,b,c,d]⟩:ByteArray).size=4:=rfl
 go_enter L.f152,Body.n152_ntmps ρ
 go_wp2_with (go_at_fn (ρ.f 119);refine (Any.utf8_ValidRune { L with } _ _).mono ?_;rintro e w' ⟨rfl,hw⟩;rw [hw,hv])
 go_step3
 go_wp2
 go_loopg [9,10,11,12] 0 (fun _ s9 _ _ _ wx=>s9=.int .i64 1∧wx=w)
 case atStart=>exact ⟨rfl,rfl⟩
 case round =>
  obtain ⟨rfl,rfl⟩:=hrel
  have hi1:(⟨#[a,b,c,d]⟩:ByteArray)[1]'(by show 1 < 4;omega)=b:=rfl
  have hi2:(⟨#[x,y]⟩:ByteArray)[1]'(by show 1 < 2;omega)=y:=rfl
  have hne:((b.toNat:Int) != (y.toNat:Int))=true:=bne_iff_ne.2 fun e=>hby (UInt8.toNat_inj.1 (by omega))
  clear hby
  have hw2:IntKind.i64.wrap 2=2:=by decide
  go_wp2
  go_step3
  go_wp2
  go_quiet_o (fail)
  go_wp2
  go_quiet_o (exact (HC.out _).mono fun e w1 h=>⟨h.1,_,h.2⟩)
  go_wp2
  try rw [Exit.noGoto_ret]
  go_wp2
  try rw [Exit.noGoto_ret]
  go_ret
  exact ⟨rfl,drewN_below _ _⟩
set_option maxHeartbeats 4000000 in
set_option maxRecDepth 1000000 in
theorem indexRune_three (L:Lays.n152 P ρ) (a b c d x x2 y:UInt8) (r:Int) (w:World) (hv:Lib.validRune r=true) (h128:128≤r) (hr:r≠65533) (he:Utf8.encode r=⟨#[x,x2,y]⟩) (hy:128≤y.toNat)
  (hs:∀z∈(⟨#[a,b,c,d]⟩:ByteArray).data.toList,z.toNat < 128) :
  Calls P (ρ.f 152) #[.string ⟨#[a,b,c,d]⟩,.int .i32 r] w fun e w'=>e=.returned (.int .i64 (-1))∧Below w.heap.size w w':=by
 have hby:c≠y:=fun e=>by have:=hs c (by simp);rw [e] at this;omega
 have hcall:∀W,Calls P (ρ.f 137) #[.string ((⟨#[a,b,c,d]⟩:ByteArray).extract 3 4),.int .u8 (y.toNat:Int)] W fun e w'=>e=.returned (.int .i64 (-1))∧w'=W:=fun W =>
  (Any.strings_IndexByte { L with } _ _ W).mono (by
   rintro e w' ⟨rfl,h⟩
   rw [byteNone _ _ (fun z hz=>hs z (mem_extract hz)) (by simpa using hy)]
   exact ⟨rfl,h⟩)
 have HC:Aside (∀W,Calls P (ρ.f 137) #[.string ((⟨#[a,b,c,d]⟩:ByteArray).extract 3 4),.int .u8 (y.toNat:Int)] W fun e w'=>e=.returned (.int .i64 (-1))∧w'=W):=hcall
 clear hs hcall
 have mixed:=L.mixed
 have t3:=L.t3;have a3:=L.a3;have z3:=L.z3;have v3:=L.v3
 have t4:=L.t4;have a4:=L.a4;have z4:=L.z4;have v4:=L.v4
 have t5:=L.t5;have a5:=L.a5;have z5:=L.z5;have v5:=L.v5
 have t9:=L.t9;have a9:=L.a9;have z9:=L.z9;have v9:=L.v9
 have t21:=L.t21;have a21:=L.a21;have z21:=L.z21;have v21:=L.v21
 have e119:∀args w,(callFunc (ρ.f 119) args).run P w=.ok (.enter (ρ.f 119) args) w:=enters_of L.f119 (by kernel_rfl) rfl
 have e137:∀args w,(callFunc (ρ.f 137) args).run P w=.ok (.enter (ρ.f 137) args) w:=enters_of L.f137 (by kernel_rfl) rfl
 have hn:¬ (r < 128):=by omega
 have h65:(r==65533)=false:=beq_eq_false_iff_ne.2 hr
 have hcv:∀w,(convert (ρ.t 21) (ρ.t 9) (.int .i32 r)).run P w=.ok (.string ⟨#[x,x2,y]⟩) w:=fun w=>by
  rw [run_convert_int_string w _ _ _ _ (by rw [t21];rfl) t9,he]
 have hsz2:(⟨#[x,x2,y]⟩:ByteArray).size=3:=rfl
 have hsz4:(⟨#[a,b,c,d]⟩:ByteArray).size=4:=rfl
 go_enter L.f152,Body.n152_ntmps ρ
 go_wp2_with (go_at_fn (ρ.f 119);refine (Any.utf8_ValidRune { L with } _ _).mono ?_;rintro e w' ⟨rfl,hw⟩;rw [hw,hv])
 go_step3
 go_wp2
 go_loopg [9,10,11,12] 0 (fun _ s9 _ _ _ wx=>s9=.int .i64 2∧wx=w)
 case atStart=>exact ⟨rfl,rfl⟩
 case round =>
  obtain ⟨rfl,rfl⟩:=hrel
  have hi1:(⟨#[a,b,c,d]⟩:ByteArray)[2]'(by show 2 < 4;omega)=c:=rfl
  have hi2:(⟨#[x,x2,y]⟩:ByteArray)[2]'(by show 2 < 3;omega)=y:=rfl
  have hne:((c.toNat:Int) != (y.toNat:Int))=true:=bne_iff_ne.2 fun e=>hby (UInt8.toNat_inj.1 (by omega))
  clear hby
  have hw2:IntKind.i64.wrap 3=3:=by decide
  go_wp2
  go_step3
  go_wp2
  go_quiet_o (fail)
  go_wp2
  go_quiet_o (exact (HC.out _).mono fun e w1 h=>⟨h.1,_,h.2⟩)
  go_wp2
  try rw [Exit.noGoto_ret]
  go_wp2
  try rw [Exit.noGoto_ret]
  go_ret
  exact ⟨rfl,drewN_below _ _⟩
set_option maxHeartbeats 4000000 in
set_option maxRecDepth 1000000 in
theorem indexRune_four (L:Lays.n152 P ρ) (a b c d x x2 x3 y:UInt8) (r:Int) (w:World) (hv:Lib.validRune r=true) (h128:128≤r) (hr:r≠65533) (he:Utf8.encode r=⟨#[x,x2,x3,y]⟩) (hy:128≤y.toNat)
  (hs:∀z∈(⟨#[a,b,c,d]⟩:ByteArray).data.toList,z.toNat < 128) :
  Calls P (ρ.f 152) #[.string ⟨#[a,b,c,d]⟩,.int .i32 r] w fun e w'=>e=.returned (.int .i64 (-1))∧Below w.heap.size w w':=by
 have hby:d≠y:=fun e=>by have:=hs d (by simp);rw [e] at this;omega
 have hcall:∀W,Calls P (ρ.f 137) #[.string ((⟨#[a,b,c,d]⟩:ByteArray).extract 4 4),.int .u8 (y.toNat:Int)] W fun e w'=>e=.returned (.int .i64 (-1))∧w'=W:=fun W =>
  (Any.strings_IndexByte { L with } _ _ W).mono (by
   rintro e w' ⟨rfl,h⟩
   rw [byteNone _ _ (fun z hz=>hs z (mem_extract hz)) (by simpa using hy)]
   exact ⟨rfl,h⟩)
 have HC:Aside (∀W,Calls P (ρ.f 137) #[.string ((⟨#[a,b,c,d]⟩:ByteArray).extract 4 4),.int .u8 (y.toNat:Int)] W fun e w'=>e=.returned (.int .i64 (-1))∧w'=W):=hcall
 clear hs hcall
 have mixed:=L.mixed
 have t3:=L.t3;have a3:=L.a3;have z3:=L.z3;have v3:=L.v3
 have t4:=L.t4;have a4:=L.a4;have z4:=L.z4;have v4:=L.v4
 have t5:=L.t5;have a5:=L.a5;have z5:=L.z5;have v5:=L.v5
 have t9:=L.t9;have a9:=L.a9;have z9:=L.z9;have v9:=L.v9
 have t21:=L.t21;have a21:=L.a21;have z21:=L.z21;have v21:=L.v21
 have e119:∀args w,(callFunc (ρ.f 119) args).run P w=.ok (.enter (ρ.f 119) args) w:=enters_of L.f119 (by kernel_rfl) rfl
 have e137:∀args w,(callFunc (ρ.f 137) args).run P w=.ok (.enter (ρ.f 137) args) w:=enters_of L.f137 (by kernel_rfl) rfl
 have hn:¬ (r < 128):=by omega
 have h65:(r==65533)=false:=beq_eq_false_iff_ne.2 hr
 have hcv:∀w,(convert (ρ.t 21) (ρ.t 9) (.int .i32 r)).run P w=.ok (.string ⟨#[x,x2,x3,y]⟩) w:=fun w=>by
  rw [run_convert_int_string w _ _ _ _ (by rw [t21];rfl) t9,he]
 have hsz2:(⟨#[x,x2,x3,y]⟩:ByteArray).size=4:=rfl
 have hsz4:(⟨#[a,b,c,d]⟩:ByteArray).size=4:=rfl
 go_enter L.f152,Body.n152_ntmps ρ
 go_wp2_with (go_at_fn (ρ.f 119);refine (Any.utf8_ValidRune { L with } _ _).mono ?_;rintro e w' ⟨rfl,hw⟩;rw [hw,hv])
 go_step3
 go_wp2
 go_loopg [9,10,11,12] 0 (fun _ s9 _ _ _ wx=>s9=.int .i64 3∧wx=w)
 case atStart=>exact ⟨rfl,rfl⟩
 case round =>
  obtain ⟨rfl,rfl⟩:=hrel
  have hi1:(⟨#[a,b,c,d]⟩:ByteArray)[3]'(by show 3 < 4;omega)=d:=rfl
  have hi2:(⟨#[x,x2,x3,y]⟩:ByteArray)[3]'(by show 3 < 4;omega)=y:=rfl
  have hne:((d.toNat:Int) != (y.toNat:Int))=true:=bne_iff_ne.2 fun e=>hby (UInt8.toNat_inj.1 (by omega))
  clear hby
  have hw2:IntKind.i64.wrap 4=4:=by decide
  go_wp2
  go_step3
  go_wp2
  go_quiet_o (fail)
  go_wp2
  go_quiet_o (exact (HC.out _).mono fun e w1 h=>⟨h.1,_,h.2⟩)
  go_wp2
  try rw [Exit.noGoto_ret]
  go_wp2
  try rw [Exit.noGoto_ret]
  go_ret
  exact ⟨rfl,drewN_below _ _⟩
end Go.Proofs.YtcgbgcconigdbaaGreatDoor
namespace Go.Proofs.YtcgbgcconigdbaaGreatDoor
open Go.Shelf Go.RowKit Go.Lib Go.Proofs
variable {P:Program} {ρ:Ren}
theorem encode_cases (r:Int) (hv:Utf8.valid r=true) (h128:128≤r):(∃x y,Utf8.encode r=⟨#[x,y]⟩∧128≤y.toNat)∨(∃x x2 y,Utf8.encode r=⟨#[x,x2,y]⟩∧128≤y.toNat)∨∃x x2 x3 y,Utf8.encode r=⟨#[x,x2,x3,y]⟩∧128≤y.toNat:=by
 have hc:¬ r.toNat < 128:=by omega
 have hy:128≤(UInt8.ofNat (128+r.toNat % 64)).toNat:=by simp;omega
 unfold Utf8.encode
 simp only [hv,if_true,hc,if_false]
 split
 ·exact .inl ⟨_,_,rfl,hy⟩
 ·split
  ·exact .inr (.inl ⟨_,_,_,rfl,hy⟩)
  ·exact .inr (.inr ⟨_,_,_,_,rfl,hy⟩)
theorem decode_all (s:ByteArray) (pos:Nat) (h:pos < s.size) (ha:128≤(s[pos]'h).toNat) :
  Utf8.valid ((Utf8.decode s pos).1:Int)=true∧pos+(Utf8.decode s pos).2≤s.size∧∀k,k < (Utf8.decode s pos).2→128≤(s.get! (pos+k)).toNat:=by
 have hn:¬ (s[pos]'h).toNat < 128:=by omega
 have h0:128≤(s.get! (pos+0)).toNat:=by rw [get_at s pos h];exact ha
 have one:∀k,k < 1→128≤(s.get! (pos+k)).toNat:=fun k hk=>by
  obtain rfl:k=0:=by omega
  exact h0
 have herr:Utf8.valid ((Utf8.runeError:Nat):Int)=true:=by decide
 simp only [Utf8.decode,get_at s pos h,hn,if_false]
 split
 ·rename_i h1
  simp only [Bool.and_eq_true,beq_iff_eq,decide_eq_true_eq] at h1
  split
  ·refine ⟨?_,by show pos+2≤_;omega,fun k hk=>?_⟩
   ·unfold Utf8.valid
    have:=(s.get! (pos+1)).toNat_lt
    rw [Bool.or_eq_true];left
    rw [Bool.and_eq_true]
    exact ⟨decide_eq_true (by omega),decide_eq_true (by show (((s[pos]'h).toNat % 32 * 64+(s.get! (pos+1)).toNat % 64:Nat):Int) < 55296;omega)⟩
   ·have hk:k < 2:=hk
    rcases (by omega:k=0∨k=1) with rfl | rfl
    ·exact h0
    ·omega
  ·exact ⟨herr,by show pos+1≤_;omega,one⟩
 ·split
  ·rename_i h1
   simp only [Bool.and_eq_true,beq_iff_eq,decide_eq_true_eq] at h1
   split
   ·rename_i h2
    simp only [Bool.and_eq_true,decide_eq_true_eq] at h2
    refine ⟨h2.2,by show pos+3≤_;omega,fun k hk=>?_⟩
    have hk:k < 3:=hk
    rcases (by omega:k=0∨k=1∨k=2) with rfl | rfl | rfl
    ·exact h0
    ·omega
    ·omega
   ·exact ⟨herr,by show pos+1≤_;omega,one⟩
  ·split
   ·rename_i h1
    simp only [Bool.and_eq_true,beq_iff_eq,decide_eq_true_eq] at h1
    split
    ·rename_i h2
     simp only [Bool.and_eq_true,decide_eq_true_eq] at h2
     refine ⟨h2.2,by show pos+4≤_;omega,fun k hk=>?_⟩
     have hk:k < 4:=hk
     rcases (by omega:k=0∨k=1∨k=2∨k=3) with rfl | rfl | rfl | rfl
     ·exact h0
     ·omega
     ·omega
     ·omega
    ·exact ⟨herr,by show pos+1≤_;omega,one⟩
   ·exact ⟨herr,by show pos+1≤_;omega,one⟩
theorem indexRune_high (L:Lays.n152 P ρ) (a b c d:UInt8) (r:Int) (w:World) (hv:Utf8.valid r=true) (h128:128≤r) (hs:∀z∈(⟨#[a,b,c,d]⟩:ByteArray).data.toList,z.toNat < 128) :
  Calls P (ρ.f 152) #[.string ⟨#[a,b,c,d]⟩,.int .i32 r] w fun e w'=>e=.returned (.int .i64 (-1))∧Below w.heap.size w w':=by
 by_cases hr:r=65533
 ·subst hr
  refine (indexRune_err L ⟨#[a,b,c,d]⟩ w fun j x hx=>hs x (List.mem_of_getElem? hx)).mono fun e w' ⟨h1,pos,h2⟩=>⟨h1,?_⟩
  rw [h2]
  exact (Below.refl _ _).alloc (Nat.le_refl _) _
 ·have hv':Lib.validRune r=true:=by
   have:=validRune_eq r
   rw [hv] at this
   exact this.symm
  rcases encode_cases r hv h128 with ⟨x,y,he,hy⟩ | ⟨x,x2,y,he,hy⟩ | ⟨x,x2,x3,y,he,hy⟩
  ·exact indexRune_two L a b c d x y r w hv' h128 hr he hy hs
  ·exact indexRune_three L a b c d x x2 y r w hv' h128 hr he hy hs
  ·exact indexRune_four L a b c d x x2 x3 y r w hv' h128 hr he hy hs
theorem noAny_high {s:ByteArray} {chars:List UInt8} {i n:Nat} (h:NoAny s.data.toList chars i) (hc:∀z∈chars,z.toNat < 128) (hn:i+n≤s.size) (hh:∀k,k < n→128≤(s.get! (i+k)).toNat):NoAny s.data.toList chars (i+n):=by
 intro j b hj hb
 by_cases hji:j < i
 ·exact h j b hji hb
 ·have hjs:j < s.size:=by omega
  have hx:=Lib.data_getElem? s j hjs
  rw [hb] at hx
  have e:=get_at s j hjs
  have h1:=hh (j - i) (by omega)
  rw [show i+(j - i)=j+0 by omega,e,←Option.some.inj hx] at h1
  cases hcon:chars.contains b with
  | false=>rfl
  | true =>
   have:=hc b (List.contains_iff_mem.1 hcon)
   omega
set_option maxHeartbeats 8000000 in
set_option maxRecDepth 1000000 in
theorem indexAny_short (L:Lays.n153 P ρ) (s:ByteArray) (a b c d:UInt8) (w:World) (h8:s.size≤8) (hcs:∀z∈(⟨#[a,b,c,d]⟩:ByteArray).data.toList,z.toNat < 128) :
  Calls P (ρ.f 153) #[.string s,.string ⟨#[a,b,c,d]⟩] w fun e w'=>e=.returned (.int .i64 (Lib.indexAny s.data.toList (⟨#[a,b,c,d]⟩:ByteArray).data.toList))∧Below w.heap.size w w':=by
 have hrune:∀(r:Int) (W:World),Utf8.valid r=true→128≤r→Calls P (ρ.f 152) #[.string ⟨#[a,b,c,d]⟩,.int .i32 r] W fun e w'=>e=.returned (.int .i64 (-1))∧Below W.heap.size W w' :=
  fun r W hv h=>indexRune_high { L with } a b c d r W hv h hcs
 have HR:Aside (∀(r:Int) (W:World),Utf8.valid r=true→128≤r→Calls P (ρ.f 152) #[.string ⟨#[a,b,c,d]⟩,.int .i32 r] W fun e w'=>e=.returned (.int .i64 (-1))∧Below W.heap.size W w'):=hrune
 have HCS:Aside (∀z∈(⟨#[a,b,c,d]⟩:ByteArray).data.toList,z.toNat < 128):=hcs
 clear hrune hcs
 have hsz4:(⟨#[a,b,c,d]⟩:ByteArray).size=4:=rfl
 have hemp:(⟨#[a,b,c,d]⟩:ByteArray).toList.isEmpty=false:=by
  rw [Lib.toList_data];rfl
 have hn1:(((⟨#[a,b,c,d]⟩:ByteArray).size:Int)==1)=false:=rfl
 have h8z:decide ((8:Int) < (s.size:Int))=false:=decide_eq_false (by omega)
 generalize (⟨#[a,b,c,d]⟩:ByteArray)=chars at *
 have t3:=L.t3;have a3:=L.a3;have z3:=L.z3;have v3:=L.v3
 have t4:=L.t4;have a4:=L.a4;have z4:=L.z4;have v4:=L.v4
 have t5:=L.t5;have a5:=L.a5;have z5:=L.z5;have v5:=L.v5
 have t9:=L.t9;have a9:=L.a9;have z9:=L.z9;have v9:=L.v9
 have t21:=L.t21;have a21:=L.a21;have z21:=L.z21;have v21:=L.v21
 have e152:∀args w,(callFunc (ρ.f 152) args).run P w=.ok (.enter (ρ.f 152) args) w:=enters_of L.f152 (by kernel_rfl) rfl
 have e226:∀args w,(callFunc (ρ.f 226) args).run P w=.ok (.enter (ρ.f 226) args) w:=enters_of L.f226 (by kernel_rfl) rfl
 go_enter L.f153,Body.n153_ntmps ρ
 go_wp2_with (go_at_fn (ρ.f 226);refine (Any.strings_shouldUseASCIISet { L with } _ _).mono ?_;rintro e w' ⟨rfl,hw⟩;rw [hw,h8z])
 go_loopg [9,10] s.size (fun g _ _ wx=>∃i:Nat,i≤s.size∧s.size≤i+g∧wx.heap[w.heap.size]?=some (.stringIter s i)∧Below w.heap.size w wx∧Lib.NoAny s.data.toList chars.data.toList i)
 case atStart=>exact ⟨0,by omega,by omega,World.iter_heap _ _ _,(Below.refl _ _).alloc (Nat.le_refl _) _,Lib.NoAny.zero _ _⟩
 case round =>
  obtain ⟨i,hi1,hi2,hk,hbel,hno⟩:=hrel
  have HN:Aside (Lib.NoAny s.data.toList chars.data.toList i):=hno
  have HB:Aside (Below w.heap.size w wr):=hbel
  have HK:Aside (wr.heap[w.heap.size]?=some (.stringIter s i)):=hk
  clear hno hbel
  by_cases hlt:i < s.size
  ·by_cases hx128:(s[i]'hlt).toNat < 128
   ·obtain ⟨x,hx⟩:∃x:UInt8,s[i]'hlt=x:=⟨_,rfl⟩
    have hxl:s.data.toList[i]?=some x:=by rw [←hx];exact Lib.data_getElem? s i hlt
    have hnx:=fun ty=>run_next_ascii_at (P:=P) wr w.heap.size s i ty hk hlt hx128
    rw [hx] at hnx hx128
    have Hx:Aside (s.data.toList[i]?=some x):=hxl
    clear hxl hx hk
    have hcon:=Lib.contains_iff_indexByte chars.data.toList x
    have hback:((x.toNat:Int)).toNat.toUInt8=x:=by simp
    obtain ⟨g,rfl⟩:∃g,gk=g+1:=⟨gk - 1,by omega⟩
    cases hin:chars.data.toList.contains x
    ·rw [hin] at hcon
     have hlt:¬ ((0:Int)≤Lib.indexByte chars.data.toList x):=of_decide_eq_false hcon.symm
     clear hcon
     go_wp2_with (go_at_fn (ρ.f 152);refine (Any.strings_IndexRune_ascii { L with } _ _ _ (by omega) (by omega)).mono ?_;rintro e w' ⟨rfl,hw⟩;rw [hw,hback])
     go_roundg g
     case measure=>omega
     case rel=>exact ⟨i+1,by omega,by omega,iterAt_heap _ _ _ _ _ HK.out,below_iterAt HB.out (Nat.le_refl _) _ _,HN.out.succ Hx.out hin⟩
    ·rw [hin] at hcon
     have hge:(0:Int)≤Lib.indexByte chars.data.toList x:=of_decide_eq_true hcon.symm
     clear hcon
     go_wp2_with (go_at_fn (ρ.f 152);refine (Any.strings_IndexRune_ascii { L with } _ _ _ (by omega) (by omega)).mono ?_;rintro e w' ⟨rfl,hw⟩;rw [hw,hback])
     go_ret
     exact ⟨by rw [Lib.indexAny_hit HN.out Hx.out hin];rfl,below_iterAt HB.out (Nat.le_refl _) _ _⟩
   ·obtain ⟨d1,d2,d3⟩:=decode_all s i hlt (by omega)
    obtain ⟨d4,d5⟩:=decode_high s i hlt (by omega)
    have hnx:=fun ty=>run_next_any_at (P:=P) wr w.heap.size s i ty hk hlt
    have HN2:Aside (Lib.NoAny s.data.toList chars.data.toList (i+(Utf8.decode s i).2)):=noAny_high HN.out HCS.out d2 d3
    have hk2:(wr.iterAt w.heap.size s (i+(Utf8.decode s i).2)).heap[w.heap.size]?=some (.stringIter s (i+(Utf8.decode s i).2)):=iterAt_heap _ _ _ _ _ hk
    have hb2:=below_iterAt HB.out (Nat.le_refl _) s (i+(Utf8.decode s i).2)
    have hcall:=HR.out ((Utf8.decode s i).1:Int) (wr.iterAt w.heap.size s (i+(Utf8.decode s i).2)) d1 (by omega)
    have hsz:w.heap.size < (wr.iterAt w.heap.size s (i+(Utf8.decode s i).2)).heap.size:=(Array.getElem?_eq_some_iff.1 hk2).1
    generalize hn:(Utf8.decode s i).2=n at *
    generalize hr:(Utf8.decode s i).1=r at *
    obtain ⟨g,rfl⟩:∃g,gk=g+1:=⟨gk - 1,by omega⟩
    have HC:Aside (Calls P (ρ.f 152) #[Value.string chars,Value.int IntKind.i32 (r:Int)] (wr.iterAt w.heap.size s (i+n)) fun e w'=>e=Ending.returned (Value.int IntKind.i64 (-1))∧w'.heap[w.heap.size]?=some (.stringIter s (i+n))∧Below w.heap.size w w'):=by
     refine hcall.mono fun e w' ⟨h1,h2⟩=>⟨h1,?_,hb2.trans (h2.mono (by omega))⟩
     rw [h2.block _ hsz];exact hk2
    clear hcall hb2 hk2 hk d1 d3 hsz hn hr hx128
    go_wp2_with (go_at_fn (ρ.f 152);refine HC.out.mono ?_;rintro e w' ⟨rfl,hw⟩)
    go_roundg g
    case measure=>omega
    case rel=>exact ⟨i+n,by omega,by omega,hw.1,hw.2,HN2.out⟩
  ·obtain rfl:i=s.size:=by omega
   have hnx:=fun ty=>run_next_end_at (P:=P) wr w.heap.size s s.size ty hk hlt
   clear hk
   go_wp2
   go_ret
   exact ⟨by rw [Lib.indexAny_none (by rw [←Lib.size_eq];exact HN.out)];rfl,HB.out⟩
end Go.Proofs.YtcgbgcconigdbaaGreatDoor
