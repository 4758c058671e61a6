/-
  THE LIBRARY's SEARCHES: strings.IndexByte's inner function, strings.IndexAny.
-/
import Derived.Test.YtobleaffkomcmaaGreatDoorLib
import Derived.Test.YtobleaffkomcmaaGreatDoorShelf
import Derived.Shelf.Strings.Search1
import Derived.Lib.Bytealg
import Derived.Lib.IndexMore
import Derived.Lib.IndexBytes
import Derived.Lib.Strings
namespace Go.Proofs.YtobleaffkomcmaaGreatDoor
open Go.Eng
set_option maxRecDepth 100000
theorem snd_calls {f:FuncId} {fn:Func} {ds:List (D Pl)} {d:D Pl} (hf:Tryz.prog.funcs[f]?=some fn) (hn:(fn.name=="runtime.NumGoroutine")=false) (hb:fn.body.isNone=false) (ho:isOw d=false)
    (h:∀(w:World) (av:Nat→Prop) (vs:Array Value),GlobOk X0.C X0.glob w av→vs.size=ds.length→(∀(i:Nat) v c,vs[i]?=some v→ds[i]?=some c→RD X0.C (cx0 w av) v c) →
      Calls Tryz.prog f vs w fun e w'=>∃v,e=.returned v∧RD X0.C (cx0 w' av) v d∧RowKit.Below w.heap.size w w'):Snd f ds d:=by
  intro w av vs hg _ hs hr
  refine .inl ⟨?_,(h w av vs hg hs hr).mono fun e w' ⟨v,he,h1,h2⟩=>⟨v,he,h1,.ofB h2 (fun h=>Bool.noConfusion (show false=true from h)),by cases d<;>first | trivial | simp [isOw] at ho⟩⟩
  have hn':¬ fn.name="runtime.NumGoroutine":=by simpa using hn
  have hb':¬ fn.body=none:=fun h=>by rw [h] at hb;simp at hb
  show (callFunc f vs).run Tryz.prog w=_
  simp [callFunc,hf,hn',hb']
theorem ibs_sound (s:Str) (c:Int):Snd 164 [.str s,.int .u8 c] (dI (Lib.indexByte s c.toNat.toUInt8)):=by
  intro w av vs hg _ hs hr
  obtain ⟨v0,v1,rfl⟩:∃v0 v1,vs=#[v0,v1]:=by
    obtain ⟨l⟩:=vs
    match l,hs with
    | [a,b],_=>exact ⟨a,b,rfl⟩
  have h0:=hr 0 _ _ rfl rfl
  have h1:=hr 1 _ _ rfl rfl
  cases h1
  cases h0 with
  | str b l h hl =>
  subst h
  refine .inr ⟨.int .i64 (Lib.indexByte b.data.toList c.toNat.toUInt8),w,?_,?_,BelowD.refl _ _,trivial⟩
  · show (callFunc 164 _).run Tryz.prog w=_
    rw [run_callFunc_extern Tryz.func164 (by kernel_rfl) (by kernel_rfl) (by kernel_rfl) (e:=Extern.BytealgIndexByte.indexByte) (by kernel_rfl),Lib.run_indexByteString];rfl
  · refine .int _ _ ?_
    have h1:=Lib.index_ge b.data.toList [c.toNat.toUInt8]
    have h2:=Lib.index_le b.data.toList [c.toNat.toUInt8]
    rw [Lib.index_one] at h1 h2
    simp only [inR,Bool.and_eq_true]
    have hb:big=140737488355328:=rfl
    refine ⟨decide_eq_true ?_,decide_eq_true ?_⟩
    · show (-9223372036854775808:Int)≤_;omega
    · show _≤(9223372036854775807:Int);omega
def pIx:List (D Pl)→Option (Bool×D Pl)
  | [.str s,.int .u8 c]=>some (true,dI (Lib.indexByte s c.toNat.toUInt8))
  | _=>none
theorem pIx_ok:∀ds b d,pIx ds=some (b,d)→b=true→Snd 164 ds d:=by
  intro ds b d h hb
  unfold pIx at h
  split at h
  · simp only [Option.some.injEq,Prod.mk.injEq] at h;obtain ⟨_,rfl⟩:=h;exact ibs_sound _ _
  · simp at h
def ascB (s:Str):Bool:=Nat.ble s.length 100000&&s.all fun b=>Nat.blt b.toNat 128
theorem indexAny_le (c:Str):∀s:Str,Lib.indexAny s c≤(s.length:Int)
  | []=>by simp [Lib.indexAny]
  | b::r=>by
    have h1:=indexAny_le c r
    unfold Lib.indexAny
    simp only [List.length_cons]
    repeat' split
    all_goals omega
theorem any_sound (s c:Str) (h:(ascB s&&ascB c)=true):Snd 190 [.str s,.str c] (dI (Lib.indexAny s c)):=by
  simp only [ascB,Bool.and_eq_true,List.all_eq_true] at h
  obtain ⟨⟨h1,h2⟩,h3,h4⟩:=h
  have h1:=Nat.le_of_ble_eq_true h1
  have h3:=Nat.le_of_ble_eq_true h3
  refine snd_calls Tryz.func190 (by kernel_rfl) (by kernel_rfl) rfl fun w av vs hg hs hr=>?_
  obtain ⟨v0,v1,rfl⟩:∃v0 v1,vs=#[v0,v1]:=by
    obtain ⟨l⟩:=vs
    match l,hs with
    | [a,b],_=>exact ⟨a,b,rfl⟩
  have k0:=hr 0 _ _ rfl rfl
  have k1:=hr 1 _ _ rfl rfl
  cases k0 with
  | str a _ e0 _ =>
  cases k1 with
  | str b _ e1 _ =>
  subst e0 e1
  have hsz:∀a:ByteArray,a.data.toList.length=a.size:=fun a=>(Lib.size_eq a).symm
  rw [hsz] at h1 h3
  refine (Any.strings_IndexAny_laid Tryz.lays153 (by kernel_rfl) a b w (by omega) (by omega) (fun j x hx=>?_) (fun j x hx=>?_)).mono fun e w' ⟨he,hw⟩=>⟨_,he,.int _ _ ?_,hw⟩
  · exact Nat.le_of_ble_eq_true (h2 x (List.mem_of_getElem? hx))
  · exact Nat.le_of_ble_eq_true (h4 x (List.mem_of_getElem? hx))
  · have q1:=Lib.indexAny_ge b.data.toList a.data.toList
    have q2:=indexAny_le b.data.toList a.data.toList
    rw [hsz] at q2
    simp only [inR,Bool.and_eq_true]
    refine ⟨decide_eq_true ?_,decide_eq_true ?_⟩
    · show (-9223372036854775808:Int)≤_;omega
    · show _≤(9223372036854775807:Int);omega
def pAny:List (D Pl)→Option (Bool×D Pl)
  | [.str s,.str c]=>some (ascB s&&ascB c,dI (Lib.indexAny s c))
  | _=>none
theorem pAny_ok:∀ds b d,pAny ds=some (b,d)→b=true→Snd 190 ds d:=by
  intro ds b d h hb
  unfold pAny at h
  split at h
  · simp only [Option.some.injEq,Prod.mk.injEq] at h;obtain ⟨rfl,rfl⟩:=h;exact any_sound _ _ hb
  · simp at h
def tLk (R:Eng.Told Pl):Eng.Told Pl:=tell 164 pIx (tell 190 pAny R)
theorem tLk_ok {R:Eng.Told Pl} (h:TOk R):TOk (tLk R):=tell_ok pIx_ok (tell_ok pAny_ok h)
end Go.Proofs.YtobleaffkomcmaaGreatDoor
