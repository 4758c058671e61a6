/-
  THE LIBRARY's FormatInt AND ParseInt, in the engine's words.
-/
import Derived.Test.YtlfohmdclcdejaaDoorWide
import Derived.Test.YtlfohmdclcdejaaDoorShelf
import Derived.Lib.AppendIntMem
import Derived.Lib.AtoiErrMem
import Derived.Lib.ItoaLen
namespace Go.Proofs.YtlfohmdclcdejaaDoor.Nu
open Go.Eng

set_option maxRecDepth 100000

/-- A library function's contract, as the engine has it: its results know of nothing of the caller's. -/
theorem snd_calls {f : FuncId} {fn : Func} {ds : List (D Pl)} {d : D Pl} (hf : Tryd.prog.funcs[f]? = some fn) (hn : (fn.name == "runtime.NumGoroutine") = false) (hb : fn.body.isNone = false) (ho : isOw d = false)
    (h : ∀ (w : World) (av : Nat → Prop) (vs : Array Value), GlobOk X0.C X0.glob w av → vs.size = ds.length → (∀ (i : Nat) v c, vs[i]? = some v → ds[i]? = some c → RD X0.C (cx0 w av) v c) →
      Calls Tryd.prog f vs w fun e w' => ∃ v, e = .returned v ∧ RD X0.C (cx0 w' av) v d ∧ RowKit.Below w.heap.size w w') : Snd f ds d := by
  intro w av vs hg _ hs hr
  refine .inl ⟨?_, (h w av vs hg hs hr).mono fun e w' ⟨v, he, h1, h2⟩ => ⟨v, he, h1, h2, by cases d <;> first | trivial | simp [isOw] at ho⟩⟩
  have hn' : ¬ fn.name = "runtime.NumGoroutine" := by simpa using hn
  have hb' : ¬ fn.body = none := fun h => by rw [h] at hb; simp at hb
  show (callFunc f vs).run Tryd.prog w = _
  simp [callFunc, hf, hn', hb']

theorem tab_is {w : World} {av : Nat → Prop} (h : GlobOk X0.C X0.glob w av) : Lib.TabIs Tryd.prog w "internal/strconv.uint64pow10" .u64 Lib.pow10Tab := by
  obtain ⟨hr, cells, T, fz, hh, hz⟩ := h 1 (Lib.pow10Tab.map fun z => .int .u64 z) rfl
  have hcell : ∀ (i : Nat) z, Lib.pow10Tab[i]? = some z → cells[i]? = some (.int .u64 z) := by
    intro i z hi
    generalize hp : Value.pointer (some ⟨1, 0, none⟩) = p at hr
    cases hr with
    | ref _ _ _ vs _ hc _ hrd =>
      cases hp
      have hi' : (Lib.pow10Tab.map fun z => (.int .u64 z : D Pl))[i]? = some (.int .u64 z) := by rw [List.getElem?_map, hi]; rfl
      have h1 := hc i _ hi'
      have h2 := hrd i _ hi'
      generalize vs i = v at h1 h2
      cases h2
      simp only [Nat.zero_add] at h1
      have h3 : w.cell? ⟨1, i, none⟩ = cells[i]? := by simp [World.cell?, hh]
      exact h3.symm.trans h1
  show w.var? _ _ = _
  unfold World.var?
  rw [show Tryd.prog.globalNamed "internal/strconv.uint64pow10" = some 1 by kernel_rfl]
  simp only [Option.bind_some, hh, Option.some.injEq]
  refine Array.ext' ?_
  refine List.ext_getElem? fun i => ?_
  rw [Array.getElem?_toList]
  simp only [List.toList_toArray, List.getElem?_map]
  by_cases hi : i < Lib.pow10Tab.length
  · rw [hcell i _ (List.getElem?_eq_getElem hi), List.getElem?_eq_getElem hi]; rfl
  · rw [List.getElem?_eq_none (by omega), Array.getElem?_eq_none (by rw [List.length_map] at hz; omega)]; rfl

theorem ifa_at {w : World} {av : Nat → Prop} (h : GlobOk X0.C X0.glob w av) {g : Nat} (hg : X0.glob g = some [.ifa]) : ∃ t v, w.cell? ⟨g, 0, none⟩ = some (.iface t v) := by
  obtain ⟨hr, _⟩ := h g _ hg
  generalize hp : Value.pointer (some ⟨g, 0, none⟩) = p at hr
  cases hr with
  | ref _ _ _ vs _ hc _ hrd =>
    cases hp
    have h1 := hc 0 _ rfl
    have h2 := hrd 0 _ rfl
    generalize vs 0 = v at h1 h2
    cases h2
    exact ⟨_, _, h1⟩

/-- FormatInt(n, 10). -/
theorem format_sound (n : Int) : Snd 51 [dI n, dI 10] (.str (Lib.itoa n)) := by
  refine snd_calls Tryd.func51 (by kernel_rfl) (by kernel_rfl) rfl fun w av vs hg hs hr => ?_
  obtain ⟨v0, v1, rfl⟩ : ∃ v0 v1, vs = #[v0, v1] := by
    obtain ⟨l⟩ := vs
    match l, hs with
    | [a, b], _ => exact ⟨a, b, rfl⟩
  have h0 := hr 0 _ _ rfl rfl
  have h1 := hr 1 _ _ rfl rfl
  cases h0 with
  | int _ _ hin =>
  cases h1 with
  | int _ _ _ =>
  have hn : -9223372036854775808 ≤ n ∧ n ≤ 9223372036854775807 := by
    simp only [inR, Bool.and_eq_true] at hin
    exact ⟨of_decide_eq_true hin.1, of_decide_eq_true hin.2⟩
  refine (Any.strconv_FormatInt_10 Tryd.laysM173 n hn.1 hn.2 w (tab_is hg)).mono fun e w' ⟨he, k, os, hw⟩ => ⟨_, he, ?_, ?_⟩
  · exact .str _ _ (by simp) (Nat.le_trans (Lib.itoa_length_le n hn.1 hn.2) (by decide))
  · subst hw; exact Lib.below_grow _ w (Nat.le_refl _) k os

/-- ParseInt(s, 10, 64), where it answers without an error; with one: its number. -/
def pOk (s : Str) : Bool := match Lib.parseIntB 64 s with
  | .ok _ => true
  | _ => false
def pVal (s : Str) : Int := match Lib.parseIntB 64 s with
  | .ok v => v
  | .range => Lib.intSat 64 s
  | _ => 0

theorem pVal_in (s : Str) : inR .i64 (pVal s) = true := by
  have key : -9223372036854775808 ≤ pVal s ∧ pVal s ≤ 9223372036854775807 := by
    unfold pVal
    split
    · rename_i v h
      unfold Lib.parseIntB at h
      split at h
      · cases h
      · simp only at h
        split at h
        · cases h
        · cases h
        · rename_i u _
          split at h
          · cases h
          · split at h
            · cases h
            · rename_i h1 h2
              simp only [Lib.NumEnd.ok.injEq] at h
              subst h
              split
              · rename_i h3; rw [h3] at h2; simp at h2; omega
              · rename_i h3; simp only [h3, not_false_eq_true, true_and] at h1; simp at h1; omega
    · unfold Lib.intSat; split <;> omega
    · omega
  simp only [inR, Bool.and_eq_true]
  exact ⟨decide_eq_true key.1, decide_eq_true key.2⟩

theorem parse_args {w : World} {av : Nat → Prop} {s : Str} {vs : Array Value} (hs : vs.size = 3) (hr : ∀ (i : Nat) v c, vs[i]? = some v → [(.str s : D Pl), dI 10, dI 64][i]? = some c → RD X0.C (cx0 w av) v c) :
    ∃ b : ByteArray, vs = #[.string b, .int .i64 10, .int .i64 64] ∧ b.data.toList = s ∧ b.size ≤ 140737488355328 := by
  obtain ⟨v0, v1, v2, rfl⟩ : ∃ v0 v1 v2, vs = #[v0, v1, v2] := by
    obtain ⟨l⟩ := vs
    match l, hs with
    | [a, b, c], _ => exact ⟨a, b, c, rfl⟩
  have h0 := hr 0 _ _ rfl rfl
  have h1 := hr 1 _ _ rfl rfl
  have h2 := hr 2 _ _ rfl rfl
  cases h1; cases h2
  cases h0 with
  | str b l h hl => exact ⟨b, rfl, h, by rw [← h, Array.length_toList] at hl; exact hl⟩

theorem parse_ok (s : Str) (h : pOk s = true) : Snd 61 [.str s, dI 10, dI 64] (.tup [dI (pVal s), .nilI]) := by
  refine snd_calls Tryd.func61 (by kernel_rfl) (by kernel_rfl) rfl fun w av vs hg hs hr => ?_
  obtain ⟨b, rfl, rfl, hb⟩ := parse_args hs hr
  obtain ⟨v, hv⟩ : ∃ v, Lib.parseIntB 64 b.data.toList = .ok v := by
    unfold pOk at h
    split at h
    · exact ⟨_, by assumption⟩
    · cases h
  have hp : pVal b.data.toList = v := by unfold pVal; rw [hv]
  have hin := pVal_in b.data.toList
  rw [hp] at hin ⊢
  refine (Any.strconv_ParseInt_10_at64_ok Tryd.laysC174 b (by omega) v hv w).mono fun e w' ⟨he, hw⟩ => ⟨_, he, ?_, ?_⟩
  · refine .tup _ _ rfl fun i v' c h1 h2 => ?_
    match i, h1, h2 with
    | 0, h1, h2 => simp at h1 h2; subst h1 h2; exact .int _ _ hin
    | 1, h1, h2 => simp at h1 h2; subst h1 h2; exact .nilI
    | i + 2, h1, h2 => simp at h2
  · rcases hw with rfl | ⟨t, rfl⟩
    · exact RowKit.Below.refl _ _
    · exact Lib.bytesWorld_below _ _ _

theorem parse_no (s : Str) (h : pOk s = false) : Snd 61 [.str s, dI 10, dI 64] (.tup [dI (pVal s), .ifa]) := by
  refine snd_calls Tryd.func61 (by kernel_rfl) (by kernel_rfl) rfl fun w av vs hg hs hr => ?_
  obtain ⟨b, rfl, rfl, hb⟩ := parse_args hs hr
  have hin := pVal_in b.data.toList
  have fin : ∀ {t : TypeId} {v : Value} {x : Int} {w' : World}, pVal b.data.toList = x → RD X0.C (cx0 w' av) (.tuple #[.int .i64 x, .iface t v]) (.tup [dI (pVal b.data.toList), .ifa]) := by
    intro t v x w' hx
    subst hx
    refine .tup _ _ rfl fun i v' c h1 h2 => ?_
    match i, h1, h2 with
    | 0, h1, h2 => simp at h1 h2; subst h1 h2; exact .int _ _ hin
    | 1, h1, h2 => simp at h1 h2; subst h1 h2; exact .ifa _ _
    | i + 2, h1, h2 => simp at h2
  cases hv : Lib.parseIntB 64 b.data.toList with
  | ok v => unfold pOk at h; rw [hv] at h; cases h
  | range =>
    obtain ⟨t, v, hc⟩ := ifa_at hg (g := 3) rfl
    refine (Any.strconv_ParseInt_10_at64_range Tryd.laysC174 b (by omega) hv _ w hc (Or.inr ⟨_, _, rfl⟩)).mono fun e w' ⟨N, he, _, _, hw⟩ => ⟨_, he, fin ?_, hw⟩
    unfold pVal; rw [hv]
  | _ =>
    obtain ⟨t, v, hc⟩ := ifa_at hg (g := 2) rfl
    refine (Any.strconv_ParseInt_10_at64_syntax Tryd.laysC174 b (by omega) hv _ w hc (Or.inr ⟨_, _, rfl⟩)).mono fun e w' ⟨N, he, _, _, hw⟩ => ⟨_, he, fin ?_, hw⟩
    unfold pVal; rw [hv]

end Go.Proofs.YtlfohmdclcdejaaDoor.Nu
