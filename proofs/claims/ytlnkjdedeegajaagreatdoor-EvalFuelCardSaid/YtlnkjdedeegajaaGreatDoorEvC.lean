/-
  THE LIBRARY's Compare AND Fields, in the engine's words; the function 'sum' of a list of numbers, called.
-/
import Derived.Test.YtlnkjdedeegajaaGreatDoorEvF
import Derived.Test.YtlnkjdedeegajaaGreatDoorShelf
import Derived.Lib.Bytealg
namespace Go.Proofs.YtlnkjdedeegajaaGreatDoor
open Go.Eng
set_option maxRecDepth 100000
namespace Ev
def pCmpV (C:Str→Str→Int):List (D Pl)→Option (Bool×D Pl)
  | [.str a,.str b]=>some (true,dI (C a b))
  | _=>none
theorem cmp_vals:∀a b:List UInt8,Lib.compareBytes a b=-1∨Lib.compareBytes a b=0∨Lib.compareBytes a b=1
  | [],[]=>by simp [Lib.compareBytes]
  | [],_::_=>by simp [Lib.compareBytes]
  | _::_,[]=>by simp [Lib.compareBytes]
  | a::xs,b::ys=>by
    unfold Lib.compareBytes
    split
    · exact .inl rfl
    · split
      · exact .inr (.inr rfl)
      · exact cmp_vals xs ys
theorem cmpstr_sound (a b:Str):Snd 195 [.str a,.str b] (dI (Lib.compareBytes a b)):=by
  intro w av vs hg _ hs hr
  obtain ⟨v0,v1,rfl⟩:∃v0 v1,vs=#[v0,v1]:=by
    obtain ⟨l⟩:=vs
    match l,hs with
    | [a,b],_=>exact ⟨a,b,rfl⟩
  have h0:=hr 0 _ _ rfl rfl
  have h1:=hr 1 _ _ rfl rfl
  cases h1 with
  | str b' _ hb' hlb =>
  cases h0 with
  | str a' _ ha' hla =>
  subst hb' ha'
  refine .inr ⟨.int .i64 (Lib.compareBytes a'.data.toList b'.data.toList),w,?_,?_,BelowD.refl _ _,trivial⟩
  · show (callFunc 195 _).run Tryz.prog w=_
    rw [run_callFunc_extern Tryz.func195 (by kernel_rfl) (by kernel_rfl) (by kernel_rfl) (e:=Extern.BytealgCompare.compare) (by kernel_rfl),Lib.run_compareString];rfl
  · refine .int _ _ ?_
    rcases cmp_vals a'.data.toList b'.data.toList with h | h | h<;>rw [h]<;>rfl
theorem pCs_ok:∀ds b d,pCmpV Lib.compareBytes ds=some (b,d)→b=true→Snd 195 ds d:=by
  intro ds b d h hb
  unfold pCmpV at h
  split at h
  · simp only [Option.some.injEq,Prod.mk.injEq] at h;obtain ⟨_,rfl⟩:=h;exact cmpstr_sound _ _
  · simp at h
theorem eCompare (C:Str→Str→Int) (a b:Str):evF (tell 195 (pCmpV C) tell0) noTL noL 5 Tryz.f125 [.str a,.str b]=some (dI (C a b)):=by kernel_rfl
theorem compare_sound (a b:Str):Snd 125 [.str a,.str b] (dI (Lib.compareBytes a b)) :=
  snd_fn (n:=5) (tell_ok pCs_ok (tell0_ok _)) (noTL_ok _ _) (fn:=Tryz.f125) (by kernel_rfl) (loops_of (f:=125) (fn:=Tryz.f125) (by kernel_rfl) (loops_0 (by kernel_rfl))) (eCompare Lib.compareBytes a b)
theorem pCmp_ok:∀ds b d,pCmpV Lib.compareBytes ds=some (b,d)→b=true→Snd 125 ds d:=by
  intro ds b d h hb
  unfold pCmpV at h
  split at h
  · simp only [Option.some.injEq,Prod.mk.injEq] at h;obtain ⟨_,rfl⟩:=h;exact compare_sound _ _
  · simp at h
theorem snd_calls {f:FuncId} {fn:Func} {ds:List (D Pl)} {d:D Pl} (hf:Tryz.prog.funcs[f]?=some fn) (hn:(fn.name=="runtime.NumGoroutine")=false) (hb:fn.body.isNone=false) (ho:isOw d=false)
    (h:∀(w:World) (av:Nat→Prop) (vs:Array Value),GlobOk X0.C X0.glob w av→vs.size=ds.length→(∀(i:Nat) v c,vs[i]?=some v→ds[i]?=some c→RD X0.C (cx0 w av) v c)→(∀b,av b→b < w.heap.size) →
      Calls Tryz.prog f vs w fun e w'=>∃v,e=.returned v∧RD X0.C (cx0 w' av) v d∧RowKit.Below w.heap.size w w'):Snd f ds d:=by
  intro w av vs hg ha hs hr
  refine .inl ⟨?_,(h w av vs hg hs hr ha).mono fun e w' ⟨v,he,h1,h2⟩=>⟨v,he,h1,.ofB h2 (fun h=>Bool.noConfusion (show false=true from h)),by cases d<;>first | trivial | simp [isOw] at ho⟩⟩
  have hn':¬ fn.name="runtime.NumGoroutine":=by simpa using hn
  have hb':¬ fn.body=none:=fun h=>by rw [h] at hb;simp at hb
  show (callFunc f vs).run Tryz.prog w=_
  simp [callFunc,hf,hn',hb']
theorem args1 {vs:Array Value} (h:vs.size=1):∃a,vs=#[a]:=by
  obtain ⟨l⟩:=vs
  match l,h with
  | [a],_=>exact ⟨a,rfl⟩
theorem tab_is {w:World} {av:Nat→Prop} (h:GlobOk X0.C X0.glob w av):Lib.TabIs Tryz.prog w "strings.asciiSpace" .u8 Lib.asciiSpaceTab:=by
  have hsp:(Lib.asciiSpaceTab.map fun z=>(.int .u8 z:D Pl))=spc:=by kernel_rfl
  obtain ⟨hr,cells,T,fz,hh,hz⟩:=h 0 (Lib.asciiSpaceTab.map fun z=>.int .u8 z) (by rw [hsp];rfl)
  have hcell:∀(i:Nat) z,Lib.asciiSpaceTab[i]?=some z→cells[i]?=some (.int .u8 z):=by
    intro i z hi
    generalize hp:Value.pointer (some ⟨0,0,none⟩)=p at hr
    cases hr with
    | ref _ _ _ vs _ hc _ hrd =>
      cases hp
      have hi':(Lib.asciiSpaceTab.map fun z=>(.int .u8 z:D Pl))[i]?=some (.int .u8 z):=by rw [List.getElem?_map,hi];rfl
      have h1:=hc i _ hi'
      have h2:=hrd i _ hi'
      generalize vs i=v at h1 h2
      cases h2
      simp only [Nat.zero_add] at h1
      have h3:w.cell? ⟨0,i,none⟩=cells[i]?:=by simp [World.cell?,hh]
      exact h3.symm.trans h1
  show w.var? _ _=_
  unfold World.var?
  rw [show Tryz.prog.globalNamed "strings.asciiSpace"=some 0 by kernel_rfl]
  simp only [Option.bind_some,hh,Option.some.injEq]
  refine Array.ext' ?_
  refine List.ext_getElem? fun i=>?_
  rw [Array.getElem?_toList]
  simp only [List.getElem?_map]
  by_cases hi:i < Lib.asciiSpaceTab.length
  · rw [hcell i _ (List.getElem?_eq_getElem hi),List.getElem?_eq_getElem hi];rfl
  · rw [List.getElem?_eq_none (by omega),Array.getElem?_eq_none (by rw [List.length_map] at hz;omega)];rfl
theorem fields_sound (s:Str) (l:List Str) (hl:Lib.fields s=l) (ha:(s.all fun b=>Nat.blt b.toNat 128)=true) (hs0:s.length < 1000) (hll:l.length≤1000) (hlx:(l.all fun x=>Nat.ble x.length 1000)=true) (h0:0 < l.length) :
    Snd 128 [.str s] (.pl (pStrs l) .any):=by
  refine snd_calls Tryz.func128 (by kernel_rfl) (by kernel_rfl) rfl fun w av vs hg hs hr hav=>?_
  obtain ⟨v0,rfl⟩:=args1 hs
  have hr0:=hr 0 _ _ rfl rfl
  have hbig:big=140737488355328:=rfl
  rw [List.all_eq_true] at ha hlx
  cases hr0 with
  | str b _ hb hlb =>
    subst hb
    have hsz:b.size=b.data.toList.length:=by simp
    refine (Any.strings_Fields_laid (ρ:=Tryz.laysM157_ren) Tryz.laysM157 b w (by rw [hsz];omega) (fun j x hj=>by
      have:=ha x (List.mem_of_getElem? hj)
      simpa using this) (tab_is hg)).mono ?_
    rintro e w' ⟨rfl,rfl⟩
    rw [hl]
    refine ⟨_,rfl,?_,RowKit.Below.alloc (RowKit.Below.refl _ _) (Nat.le_refl _) _⟩
    refine .pl w.heap.size 0 _ _ (pStrs l) .any (fun i j=>.string ⟨(l.getD i []).toArray⟩) rfl (Nat.le_refl _) (show l.length * 16≤big by omega) trivial (fun h=>by have:=hav _ h;omega) (fun i j d hi hd=>?_) (fun i j d hi hd=>rfl) (fun i j d hi hd=>?_)
    · have hj:j=0:=by
        cases j with
        | zero=>rfl
        | succ j=>exact absurd hd (by simp [X0,plC,Ty.enc])
      subst hj
      show World.cell? (w.alloc _) ⟨_,0+(i * 1+0),none⟩=_
      rw [World.cell?_alloc_mark,Nat.zero_add,Nat.mul_one,Nat.add_zero]
      simp only [List.getElem?_toArray,List.getElem?_map,List.getElem?_eq_getElem hi,Option.map_some,List.getD_eq_getElem?_getD,Option.getD_some]
    · have hj:j=0:=by
        cases j with
        | zero=>rfl
        | succ j=>exact absurd hd (by simp [X0,plC,Ty.enc])
      subst hj
      have hd:some (.str (l.getD i []):D Pl)=some d:=hd
      simp only [Option.some.injEq] at hd
      subst hd
      have:=hlx (l.getD i []) (by rw [List.getD_eq_getElem?_getD,List.getElem?_eq_getElem hi];simp)
      rw [Nat.ble_eq] at this
      exact .str _ _ rfl (by show (l.getD i []).length≤big;omega)
def sLI:Str:=[108,105,115,116,40,105,110,116,41]
def pFlds:List (D Pl)→Option (Bool×D Pl)
  | [.str s]=>some (s==sLI,.pl (pStrs [sLI]) .any)
  | _=>none
theorem pFlds_ok:∀ds b d,pFlds ds=some (b,d)→b=true→Snd 128 ds d:=by
  intro ds b d h hb
  unfold pFlds at h
  split at h
  · simp only [Option.some.injEq,Prod.mk.injEq] at h
    obtain ⟨rfl,rfl⟩:=h
    rw [beq_iff_eq] at hb
    subst hb
    exact fields_sound sLI [sLI] (by kernel_rfl) (by kernel_rfl) (by decide) (by decide) (by kernel_rfl) (by decide)
  · simp at h
theorem eTp:ev tell0 noTL 12 129 [.str sLI]=some (.tup [.agg [dI 4,dI 2],dI 0]):=by kernel_rfl
def pTp:List (D Pl)→Option (Bool×D Pl)
  | [.str s]=>some (s==sLI,.tup [.agg [dI 4,dI 2],dI 0])
  | _=>none
theorem pTp_ok:∀ds b d,pTp ds=some (b,d)→b=true→Snd 129 ds d:=by
  intro ds b d h hb
  unfold pTp at h
  split at h
  · simp only [Option.some.injEq,Prod.mk.injEq] at h
    obtain ⟨rfl,rfl⟩:=h
    rw [beq_iff_eq] at hb
    subst hb
    exact snd_of (tell0_ok _) (noTL_ok _ _) eTp
  · simp at h
def tFi:Eng.Told Pl:=tell 125 (pCmpV Lib.compareBytes) tell0
theorem eFi:ev tFi noTL 12 92 [.str sSum]=some (.tup [.agg [.str sSum,.str sLI,.str [105,110,116]],.bool true]):=by kernel_rfl
def pFi:List (D Pl)→Option (Bool×D Pl)
  | [.str s]=>some (s==sSum,.tup [.agg [.str sSum,.str sLI,.str [105,110,116]],.bool true])
  | _=>none
theorem pFi_ok:∀ds b d,pFi ds=some (b,d)→b=true→Snd 92 ds d:=by
  intro ds b d h hb
  unfold pFi at h
  split at h
  · simp only [Option.some.injEq,Prod.mk.injEq] at h
    obtain ⟨rfl,rfl⟩:=h
    rw [beq_iff_eq] at hb
    subst hb
    exact snd_of (tell_ok pCmp_ok (tell0_ok _)) (noTL_ok _ _) eFi
  · simp at h
noncomputable def pNu:List (D Pl)→Option (Bool×D Pl)
  | [.str s,.pl ⟨.vals,[v]⟩ .any]=>some (s==sSum&&(isLV v&&Go.Proofs.YtlnkjdedeegajaaGreatDoor.cB (small v.l)),.tup [.agg (cV0 (sumI v.l)),dI 0,.bool true])
  | _=>none
theorem pNu_ok:∀ds b d,pNu ds=some (b,d)→b=true→Snd 131 ds d:=by
  intro ds b d h hb
  unfold pNu at h
  split at h
  · rename_i s v
    simp only [Option.some.injEq,Prod.mk.injEq] at h
    obtain ⟨rfl,rfl⟩:=h
    rw [Bool.and_eq_true,Bool.and_eq_true,beq_iff_eq] at hb
    obtain ⟨rfl,hv,hs⟩:=hb
    obtain ⟨e,_⟩:=isLV_eq hv
    rw [e]
    exact snd_fn (n:=2) tSu_ok (noTL_ok _ _) (f:=131) (fn:=Tryz.f131) (by kernel_rfl) (loops_of (f:=131) (fn:=Tryz.f131) (by kernel_rfl) (loops_2 idsSu.1 (atL_ok (fun h=>absurd (idsSu.2.1.symm.trans h) (by decide)) fun _=>noL_ok _ _) (atL_ok (fun _=>LSSu_ok) fun h=>absurd idsSu.2.2.1 h))) ((eSu v.l).trans (by rw [beq_self_eq_true];show ck_ (true&&Go.Proofs.YtlnkjdedeegajaaGreatDoor.cB (small v.l)) _=_;rw [hs];rfl))
  · simp at h
def tCk (R:Eng.Told Pl):Eng.Told Pl:=tell 26 (p1 fun v=>(bif v.kind==2 then isIV v else isLV v,dI 0)) R
theorem tCk_ok {R:Eng.Told Pl} (h:TOk R):TOk (tCk R):=tell_ok (p1_ok fun v hv=>by
  cases hk:v.kind==2 with
  | true =>
    simp only [hk,cond_true] at hv
    rw [isIV_eq hv]
    exact chI _
  | false =>
    simp only [hk,cond_false] at hv
    obtain ⟨e,h⟩:=isLV_eq hv
    rw [e]
    exact chL _ h) h
noncomputable def tCa:Eng.Told Pl:=tCk (tell 92 pFi (tell 128 pFlds (tell 129 pTp (tell 66 (pL1 [] fun _=>.bool true) (tell 97 (pL1 [] fun L=>.agg (cV (listV L))) (tell 98 (pL1 [.agg [dI 4,dI 2]] fun _=>.bool true) (tell 54 (pL1 [] fun _=>.bool false) (tell 131 pNu tell0))))))))
theorem tCa_ok:TOk tCa:=tCk_ok (tell_ok pFi_ok (tell_ok pFlds_ok (tell_ok pTp_ok (tell_ok (pL1_ok knL) (tell_ok (pL1_ok baL) (tell_ok (pL1_ok isL) (tell_ok (pL1_ok seL) (tell_ok pNu_ok (tell0_ok _)))))))))
theorem eCa (L:List Val):evF tCa noTL noL 12 Tryz.f56 [.str sSum,.pl (pVals [listV L]) .any] =
    ck_ (isLV (listV L)) (ck_ (isLV (listV L)) (ck_ (isLV (listV L)) (ck_ (isLV (listV L)) (ck_ (sSum==sSum&&(isLV (listV L)&&Go.Proofs.YtlnkjdedeegajaaGreatDoor.cB (small L))) (ck_ (isIV (intV (sumI L))) (ck_ (isLV (listV L)) (some (.tup [.agg (cV0 (sumI L)),dI 0])))))))):=by kernel_rfl
theorem ca_sound (L:List Val) (h:okL L=true) (hs:small L):Snd 56 [.str sSum,.pl (pVals [listV L]) .any] (.tup [.agg (cV (intV (sumI L))),dI 0]):=by
  have hc:Go.Proofs.YtlnkjdedeegajaaGreatDoor.cB (small L)=true:=@decide_eq_true _ (Classical.propDecidable _) hs
  refine (snd_fn (n:=12) tCa_ok (noTL_ok _ _) (f:=56) (fn:=Tryz.f56) (by kernel_rfl) (fun _ _ b _=>noL_ok _ b) ((eCa L).trans (by
    rw [isLV_t h,hc]
    rfl))).post ?_
  exact RDle.tup (.cons (RDle.agg (.cons (RDle.refl _) (.cons (RDle.refl _) (.cons (RDle.refl _) (.cons (RDle.of (.nil _ rfl)) (.cons (RDle.of (.nil _ rfl)) (RDles.refl _))))))) (RDles.refl _))
end Ev
end Go.Proofs.YtlnkjdedeegajaaGreatDoor
