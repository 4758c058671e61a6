/-
 THE LIBRARY's SEARCHES: strings.IndexByte's inner function, strings.IndexAny.
-/
import Derived.Shelf.Strings.IndexAny
import Derived.Shelf.Strings.IndexAnyAll
import Derived.Shelf.LaysM
import Derived.Shelf.LaysC
import Derived.Shelf.Strconv.ParseIntPublic10
import Derived.Test.YtcgbgcconigdbaaGreatDoorProg
import Derived.Test.YtcgbgcconigdbaaGreatDoorStep
import Derived.Shelf.Strings.Search1
import Derived.Lib.Bytealg
import Derived.Lib.IndexMore
import Derived.Lib.IndexBytes
import Derived.Lib.Strings
namespace Go.Proofs
open Go.Shelf
def Tryz.lays153_ren:Go.Shelf.Ren:=⟨fun | 153=>50 | 152=>62 | 226=>63 | 227=>64 | 228=>65 | 137=>23 | 119=>83 | 224=>84 | 225=>85 | 217=>32 | 266=>40 | n=>n,fun | 9=>9 | 3=>3 | 4=>4 | 5=>5 | 21=>21 | 117=>111 | 116=>110 | 0=>0 | 46=>66 | 124=>131 | n=>n,fun | n=>n⟩
theorem Tryz.lays153:Go.Proofs.Lays.n153 Tryz.prog Tryz.lays153_ren:={
 mixed:=by kernel_rfl
 f119:=Tryz.func83.trans (congrArg some (by kernel_rfl))
 f137:=Tryz.func23.trans (congrArg some (by kernel_rfl))
 f152:=Tryz.func62.trans (congrArg some (by kernel_rfl))
 f153:=Tryz.func50.trans (congrArg some (by kernel_rfl))
 f217:=Tryz.func32.trans (congrArg some (by kernel_rfl))
 f224:=Tryz.func84.trans (congrArg some (by kernel_rfl))
 f225:=Tryz.func85.trans (congrArg some (by kernel_rfl))
 f226:=Tryz.func63.trans (congrArg some (by kernel_rfl))
 f227:=Tryz.func64.trans (congrArg some (by kernel_rfl))
 f228:=Tryz.func65.trans (congrArg some (by kernel_rfl))
 f266:=Tryz.func40.trans (congrArg some (by kernel_rfl))
 t0:=Tryz.underlying0
 a0:=Tryz.isAgg0
 z0:=Tryz.sizeOf0
 v0:=Tryz.zeroValue0
 t3:=Tryz.underlying3
 a3:=Tryz.isAgg3
 z3:=Tryz.sizeOf3
 v3:=Tryz.zeroValue3
 t4:=Tryz.underlying4
 a4:=Tryz.isAgg4
 z4:=Tryz.sizeOf4
 v4:=Tryz.zeroValue4
 t5:=Tryz.underlying5
 a5:=Tryz.isAgg5
 z5:=Tryz.sizeOf5
 v5:=Tryz.zeroValue5
 t9:=Tryz.underlying9
 a9:=Tryz.isAgg9
 z9:=Tryz.sizeOf9
 v9:=Tryz.zeroValue9
 t21:=Tryz.underlying21
 a21:=Tryz.isAgg21
 z21:=Tryz.sizeOf21
 v21:=Tryz.zeroValue21
 t46:=Tryz.underlying66
 a46:=Tryz.isAgg66
 z46:=Tryz.sizeOf66
 v46:=Tryz.zeroValue66
 t116:=Tryz.underlying110
 a116:=Tryz.isAgg110
 z116:=Tryz.sizeOf110
 t117:=Tryz.underlying111
 a117:=Tryz.isAgg111
 z117:=Tryz.sizeOf111
 v117:=Tryz.zeroValue111
 t124:=Tryz.underlying131
 a124:=Tryz.isAgg131
 z124:=Tryz.sizeOf131
 v124:=Tryz.zeroValue131 }
def Tryz.laysC174_ren:Go.Shelf.Ren:=⟨fun | 174=>42 | 247=>48 | 245=>49 | 287=>57 | 279=>58 | 280=>59 | 281=>60 | 282=>61 | 321=>78 | 322=>79 | 316=>80 | 171=>82 | 205=>81 | 243=>89 | 246=>91 | 283=>92 | 284=>93 | 285=>94 | 286=>95 | 129=>97 | 317=>96 | 318=>98 | 319=>99 | 320=>100 | 337=>101 | 338=>102 | n=>n,fun | 9=>9 | 3=>3 | 2=>2 | 75=>87 | 85=>88 | 4=>4 | 167=>101 | 5=>5 | 53=>56 | 175=>102 | 46=>66 | 168=>104 | 37=>90 | 0=>0 | 210=>126 | 21=>21 | 127=>134 | 145=>137 | 143=>135 | 171=>140 | 173=>143 | 212=>146 | 51=>147 | 20=>20 | 213=>148 | 232=>151 | 233=>152 | 80=>133 | n=>n,fun | 15=>1 | 16=>2 | 17=>3 | 18=>4 | 19=>5 | n=>n⟩
theorem Tryz.laysC174:Go.Proofs.LaysC.n174 Tryz.prog Tryz.laysC174_ren:={
 mixed:=by kernel_rfl
 f129:=Tryz.func97.trans (congrArg some (by kernel_rfl))
 f171:=Tryz.func82.trans (congrArg some (by kernel_rfl))
 f174:=Tryz.func42.trans (congrArg some (by kernel_rfl))
 f205:=Tryz.func81.trans (congrArg some (by kernel_rfl))
 f243:=Tryz.func89.trans (congrArg some (by kernel_rfl))
 f245:=Tryz.func49.trans (congrArg some (by kernel_rfl))
 f246:=Tryz.func91.trans (congrArg some (by kernel_rfl))
 f247:=Tryz.func48.trans (congrArg some (by kernel_rfl))
 f279:=Tryz.func58.trans (congrArg some (by kernel_rfl))
 f280:=Tryz.func59.trans (congrArg some (by kernel_rfl))
 f281:=Tryz.func60.trans (congrArg some (by kernel_rfl))
 f282:=Tryz.func61.trans (congrArg some (by kernel_rfl))
 f283:=Tryz.func92.trans (congrArg some (by kernel_rfl))
 f284:=Tryz.func93.trans (congrArg some (by kernel_rfl))
 f285:=Tryz.func94.trans (congrArg some (by kernel_rfl))
 f286:=Tryz.func95.trans (congrArg some (by kernel_rfl))
 f287:=Tryz.func57.trans (congrArg some (by kernel_rfl))
 f316:=Tryz.func80.trans (congrArg some (by kernel_rfl))
 f317:=Tryz.func96.trans (congrArg some (by kernel_rfl))
 f318:=Tryz.func98.trans (congrArg some (by kernel_rfl))
 f319:=Tryz.func99.trans (congrArg some (by kernel_rfl))
 f320:=Tryz.func100.trans (congrArg some (by kernel_rfl))
 f321:=Tryz.func78.trans (congrArg some (by kernel_rfl))
 f322:=Tryz.func79.trans (congrArg some (by kernel_rfl))
 f337:=Tryz.func101.trans (congrArg some (by kernel_rfl))
 f338:=Tryz.func102.trans (congrArg some (by kernel_rfl))
 t0:=Tryz.underlying0
 a0:=Tryz.isAgg0
 z0:=Tryz.sizeOf0
 v0:=Tryz.zeroValue0
 t2:=Tryz.underlying2
 a2:=Tryz.isAgg2
 z2:=Tryz.sizeOf2
 v2:=Tryz.zeroValue2
 t3:=Tryz.underlying3
 a3:=Tryz.isAgg3
 z3:=Tryz.sizeOf3
 v3:=Tryz.zeroValue3
 t4:=Tryz.underlying4
 a4:=Tryz.isAgg4
 z4:=Tryz.sizeOf4
 v4:=Tryz.zeroValue4
 t5:=Tryz.underlying5
 a5:=Tryz.isAgg5
 z5:=Tryz.sizeOf5
 v5:=Tryz.zeroValue5
 t9:=Tryz.underlying9
 a9:=Tryz.isAgg9
 z9:=Tryz.sizeOf9
 v9:=Tryz.zeroValue9
 t20:=Tryz.underlying20
 a20:=Tryz.isAgg20
 z20:=Tryz.sizeOf20
 v20:=Tryz.zeroValue20
 t21:=Tryz.underlying21
 a21:=Tryz.isAgg21
 z21:=Tryz.sizeOf21
 v21:=Tryz.zeroValue21
 t37:=Tryz.underlying90
 a37:=Tryz.isAgg90
 z37:=Tryz.sizeOf90
 v37:=Tryz.zeroValue90
 t46:=Tryz.underlying66
 a46:=Tryz.isAgg66
 z46:=Tryz.sizeOf66
 v46:=Tryz.zeroValue66
 t51:=Tryz.underlying147
 a51:=Tryz.isAgg147
 z51:=Tryz.sizeOf147
 v51:=Tryz.zeroValue147
 t53:=Tryz.underlying56
 a53:=Tryz.isAgg56
 z53:=Tryz.sizeOf56
 v53:=Tryz.zeroValue56
 t75:=Tryz.underlying87
 a75:=Tryz.isAgg87
 z75:=Tryz.sizeOf87
 v75:=Tryz.zeroValue87
 t85:=Tryz.underlying88
 a85:=Tryz.isAgg88
 z85:=Tryz.sizeOf88
 v85:=Tryz.zeroValue88
 t127:=Tryz.underlying134
 a127:=Tryz.isAgg134
 z127:=Tryz.sizeOf134
 v127:=Tryz.zeroValue134
 t143:=Tryz.underlying135
 a143:=Tryz.isAgg135
 z143:=Tryz.sizeOf135
 v143:=Tryz.zeroValue135
 t145:=Tryz.underlying137
 a145:=Tryz.isAgg137
 z145:=Tryz.sizeOf137
 v145:=Tryz.zeroValue137
 t167:=Tryz.underlying101
 a167:=Tryz.isAgg101
 z167:=Tryz.sizeOf101
 v167:=Tryz.zeroValue101
 t168:=Tryz.underlying104
 a168:=Tryz.isAgg104
 z168:=Tryz.sizeOf104
 v168:=Tryz.zeroValue104
 t171:=Tryz.underlying140
 a171:=Tryz.isAgg140
 z171:=Tryz.sizeOf140
 v171:=Tryz.zeroValue140
 t173:=Tryz.underlying143
 a173:=Tryz.isAgg143
 z173:=Tryz.sizeOf143
 v173:=Tryz.zeroValue143
 t175:=Tryz.underlying102
 a175:=Tryz.isAgg102
 z175:=Tryz.sizeOf102
 v175:=Tryz.zeroValue102
 t210:=Tryz.underlying126
 a210:=Tryz.isAgg126
 z210:=Tryz.sizeOf126
 v210:=Tryz.zeroValue126
 t212:=Tryz.underlying146
 a212:=Tryz.isAgg146
 z212:=Tryz.sizeOf146
 v212:=Tryz.zeroValue146
 t213:=Tryz.underlying148
 a213:=Tryz.isAgg148
 z213:=Tryz.sizeOf148
 t232:=Tryz.underlying151
 a232:=Tryz.isAgg151
 z232:=Tryz.sizeOf151
 v232:=Tryz.zeroValue151
 t233:=Tryz.underlying152
 a233:=Tryz.isAgg152
 z233:=Tryz.sizeOf152
 v233:=Tryz.zeroValue152
 g15:=by kernel_rfl
 g16:=by kernel_rfl
 g17:=by kernel_rfl
 g18:=by kernel_rfl
 g19:=by kernel_rfl
 t80:=Tryz.underlying133
 a80:=Tryz.isAgg133
 z80:=Tryz.sizeOf133
 v80:=Tryz.zeroValue133
 i0:=by kernel_rfl
 i2:=by kernel_rfl
 i3:=by kernel_rfl
 i4:=by kernel_rfl
 i5:=by kernel_rfl
 i9:=by kernel_rfl
 i20:=by kernel_rfl
 i21:=by kernel_rfl
 i37:=by kernel_rfl
 i46:=by kernel_rfl
 i51:=by kernel_rfl
 i53:=by kernel_rfl
 i75:=by kernel_rfl
 i80:=by kernel_rfl
 i85:=by kernel_rfl
 i127:=by kernel_rfl
 i143:=by kernel_rfl
 i145:=by kernel_rfl
 i167:=by kernel_rfl
 i168:=by kernel_rfl
 i171:=by kernel_rfl
 i173:=by kernel_rfl
 i175:=by kernel_rfl
 i210:=by kernel_rfl
 i212:=by kernel_rfl
 i232:=by kernel_rfl
 i233:=by kernel_rfl
 m15:=by kernel_rfl
 m16:=by kernel_rfl
 m17:=by kernel_rfl
 m18:=by kernel_rfl
 m19:=by kernel_rfl
 c0:=by kernel_rfl
 c2:=by kernel_rfl
 c3:=by kernel_rfl
 c4:=by kernel_rfl
 c5:=by kernel_rfl
 c9:=by kernel_rfl
 c20:=by kernel_rfl
 c21:=by kernel_rfl
 c37:=by kernel_rfl
 c46:=by kernel_rfl
 c51:=by kernel_rfl
 c53:=by kernel_rfl
 c75:=by kernel_rfl
 c80:=by kernel_rfl
 c85:=by kernel_rfl
 c127:=by kernel_rfl
 c143:=by kernel_rfl
 c145:=by kernel_rfl
 c167:=by kernel_rfl
 c168:=by kernel_rfl
 c171:=by kernel_rfl
 c173:=by kernel_rfl
 c175:=by kernel_rfl
 c210:=by kernel_rfl
 c212:=by kernel_rfl
 c213:=by kernel_rfl
 c232:=by kernel_rfl
 c233:=by kernel_rfl }
end Go.Proofs
namespace Go.Proofs.YtcgbgcconigdbaaGreatDoor
open Go.Eng
set_option maxRecDepth 100000
theorem snd_calls {f:FuncId} {fn:Func} {ds:List (D Pl)} {d:D Pl} (hf:Tryz.prog.funcs[f]?=some fn) (hn:(fn.name=="runtime.NumGoroutine")=false) (hb:fn.body.isNone=false) (ho:isOw d=false)
  (h:∀(w:World) (av:Nat→Prop) (vs:Array Value),GlobOk X0.C X0.glob w av→vs.size=ds.length→(∀(i:Nat) v c,vs[i]?=some v→ds[i]?=some c→RD X0.C (cx0 w av) v c) →
   Calls Tryz.prog f vs w fun e w'=>∃v,e=.returned v∧RD X0.C (cx0 w' av) v d∧RowKit.Below w.heap.size w w'):Snd f ds d:=by
 intro w av vs hg _ hs hr
 refine .inl ⟨?_,(h w av vs hg hs hr).mono fun e w' ⟨v,he,h1,h2⟩=>⟨v,he,h1,.ofB h2 (fun h=>Bool.noConfusion (show false=true from h)),by cases d<;>first | trivial | simp [isOw] at ho⟩⟩
 have hn':¬ fn.name="runtime.NumGoroutine":=by simpa using hn
 have hb':¬ fn.body=none:=fun h=>by rw [h] at hb;simp at hb
 show (callFunc f vs).run Tryz.prog w=_
 simp [callFunc,hf,hn',hb']
theorem ibs_sound (s:Str) (c:Int):Snd 40 [.str s,.int .u8 c] (dI (Lib.indexByte s c.toNat.toUInt8)):=by
 intro w av vs hg _ hs hr
 obtain ⟨v0,v1,rfl⟩:∃v0 v1,vs=#[v0,v1]:=by
  obtain ⟨l⟩:=vs
  match l,hs with
  | [a,b],_=>exact ⟨a,b,rfl⟩
 have h0:=hr 0 _ _ rfl rfl
 have h1:=hr 1 _ _ rfl rfl
 cases h1
 cases h0 with
 | str b l h hl =>
 subst h
 refine .inr ⟨.int .i64 (Lib.indexByte b.data.toList c.toNat.toUInt8),w,?_,?_,BelowD.refl _ _,trivial⟩
 ·show (callFunc 40 _).run Tryz.prog w=_
  rw [run_callFunc_extern Tryz.func40 (by kernel_rfl) (by kernel_rfl) (by kernel_rfl) (e:=Extern.BytealgIndexByte.indexByte) (by kernel_rfl),Lib.run_indexByteString];rfl
 ·refine .int _ _ ?_
  have h1:=Lib.index_ge b.data.toList [c.toNat.toUInt8]
  have h2:=Lib.index_le b.data.toList [c.toNat.toUInt8]
  rw [Lib.index_one] at h1 h2
  simp only [inR,Bool.and_eq_true]
  have hb:big=140737488355328:=rfl
  refine ⟨decide_eq_true ?_,decide_eq_true ?_⟩
  ·show (-9223372036854775808:Int)≤_;omega
  ·show _≤(9223372036854775807:Int);omega
def pIx:List (D Pl)→Option (Bool×D Pl)
 | [.str s,.int .u8 c]=>some (true,dI (Lib.indexByte s c.toNat.toUInt8))
 | _=>none
theorem pIx_ok:∀ds b d,pIx ds=some (b,d)→b=true→Snd 40 ds d:=by
 intro ds b d h hb
 unfold pIx at h
 split at h
 ·simp only [Option.some.injEq,Prod.mk.injEq] at h;obtain ⟨_,rfl⟩:=h;exact ibs_sound _ _
 ·simp at h
def ascB (s:Str):Bool:=Nat.ble s.length 100000&&s.all fun b=>Nat.blt b.toNat 128
theorem indexAny_le (c:Str):∀s:Str,Lib.indexAny s c≤(s.length:Int)
 | []=>by simp [Lib.indexAny]
 | b::r=>by
  have h1:=indexAny_le c r
  unfold Lib.indexAny
  simp only [List.length_cons]
  repeat' split
  all_goals omega
theorem any_sound (s c:Str) (h:(ascB s&&ascB c)=true):Snd 50 [.str s,.str c] (dI (Lib.indexAny s c)):=by
 simp only [ascB,Bool.and_eq_true,List.all_eq_true] at h
 obtain ⟨⟨h1,h2⟩,h3,h4⟩:=h
 have h1:=Nat.le_of_ble_eq_true h1
 have h3:=Nat.le_of_ble_eq_true h3
 refine snd_calls Tryz.func50 (by kernel_rfl) (by kernel_rfl) rfl fun w av vs hg hs hr=>?_
 obtain ⟨v0,v1,rfl⟩:∃v0 v1,vs=#[v0,v1]:=by
  obtain ⟨l⟩:=vs
  match l,hs with
  | [a,b],_=>exact ⟨a,b,rfl⟩
 have k0:=hr 0 _ _ rfl rfl
 have k1:=hr 1 _ _ rfl rfl
 cases k0 with
 | str a _ e0 _ =>
 cases k1 with
 | str b _ e1 _ =>
 subst e0 e1
 have hsz:∀a:ByteArray,a.data.toList.length=a.size:=fun a=>(Lib.size_eq a).symm
 rw [hsz] at h1 h3
 refine (Any.strings_IndexAny_laid Tryz.lays153 (by kernel_rfl) a b w (by omega) (by omega) (fun j x hx=>?_) (fun j x hx=>?_)).mono fun e w' ⟨he,hw⟩=>⟨_,he,.int _ _ ?_,hw⟩
 ·exact Nat.le_of_ble_eq_true (h2 x (List.mem_of_getElem? hx))
 ·exact Nat.le_of_ble_eq_true (h4 x (List.mem_of_getElem? hx))
 ·have q1:=Lib.indexAny_ge b.data.toList a.data.toList
  have q2:=indexAny_le b.data.toList a.data.toList
  rw [hsz] at q2
  simp only [inR,Bool.and_eq_true]
  refine ⟨decide_eq_true ?_,decide_eq_true ?_⟩
  ·show (-9223372036854775808:Int)≤_;omega
  ·show _≤(9223372036854775807:Int);omega
def pAny:List (D Pl)→Option (Bool×D Pl)
 | [.str s,.str c]=>some (ascB s&&ascB c,dI (Lib.indexAny s c))
 | _=>none
theorem pAny_ok:∀ds b d,pAny ds=some (b,d)→b=true→Snd 50 ds d:=by
 intro ds b d h hb
 unfold pAny at h
 split at h
 ·simp only [Option.some.injEq,Prod.mk.injEq] at h;obtain ⟨rfl,rfl⟩:=h;exact any_sound _ _ hb
 ·simp at h
def tLk (R:Eng.Told Pl):Eng.Told Pl:=tell 40 pIx (tell 50 pAny R)
theorem tLk_ok {R:Eng.Told Pl} (h:TOk R):TOk (tLk R):=tell_ok pIx_ok (tell_ok pAny_ok h)
end Go.Proofs.YtcgbgcconigdbaaGreatDoor
