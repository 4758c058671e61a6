/-
  THE LIBRARY's Repeat, Fields, Join AND Clone, in the engine's words, at what the document's example asks of them.
-/
import Derived.Test.YtjldjhcadcofoaaGreatDoorTyps
import Derived.Test.YtjldjhcadcofoaaGreatDoorShelf
import Derived.Test.YtjldjhcadcofoaaGreatDoorRepeat
namespace Go.Proofs.YtjldjhcadcofoaaGreatDoor
open Go.Eng

set_option maxRecDepth 100000

/-- A library function's contract, as the engine has it: its results know of nothing of the caller's. -/
theorem snd_calls {f : FuncId} {fn : Func} {ds : List (D Pl)} {d : D Pl} (hf : Tryz.prog.funcs[f]? = some fn) (hn : (fn.name == "runtime.NumGoroutine") = false) (hb : fn.body.isNone = false) (ho : isOw d = false)
    (h : ∀ (w : World) (av : Nat → Prop) (vs : Array Value), GlobOk X0.C X0.glob w av → vs.size = ds.length → (∀ (i : Nat) v c, vs[i]? = some v → ds[i]? = some c → RD X0.C (cx0 w av) v c) → (∀ b, av b → b < w.heap.size) →
      Calls Tryz.prog f vs w fun e w' => ∃ v, e = .returned v ∧ RD X0.C (cx0 w' av) v d ∧ RowKit.Below w.heap.size w w') : Snd f ds d := by
  intro w av vs hg ha hs hr
  refine .inl ⟨?_, (h w av vs hg hs hr ha).mono fun e w' ⟨v, he, h1, h2⟩ => ⟨v, he, h1, .ofB h2 (fun h => Bool.noConfusion (show false = true from h)), by cases d <;> first | trivial | simp [isOw] at ho⟩⟩
  have hn' : ¬ fn.name = "runtime.NumGoroutine" := by simpa using hn
  have hb' : ¬ fn.body = none := fun h => by rw [h] at hb; simp at hb
  show (callFunc f vs).run Tryz.prog w = _
  simp [callFunc, hf, hn', hb']

theorem args2 {vs : Array Value} (h : vs.size = 2) : ∃ a b, vs = #[a, b] := by
  obtain ⟨l⟩ := vs
  match l, h with
  | [a, b], _ => exact ⟨a, b, rfl⟩
theorem args1 {vs : Array Value} (h : vs.size = 1) : ∃ a, vs = #[a] := by
  obtain ⟨l⟩ := vs
  match l, h with
  | [a], _ => exact ⟨a, rfl⟩

theorem below_drew {B : Nat} {w w' : World} (h : RowKit.Below B w w') : RowKit.Below B w w'.drew := ⟨h.os, h.tape, h.output, h.size, h.block⟩

/-- slices.Repeat of one type, twice. -/
theorem repeat_sound (x : TypR) : Snd 39 [.pl ⟨.types, [x]⟩ .any, .int .i64 2] (.pl ⟨.types, [x, x]⟩ .any) := by
  refine snd_calls Tryz.func39 (by kernel_rfl) (by kernel_rfl) rfl fun w av vs hg hs hr hav => ?_
  obtain ⟨v0, v1, rfl⟩ := args2 hs
  have h0 := hr 0 _ _ rfl rfl
  have h1 := hr 1 _ _ rfl rfl
  cases h1 with
  | int _ _ _ =>
  cases h0 with
  | pl0 _ _ _ _ hl hk => exact absurd hl (by simp [X0, plC])
  | pl b off n c _ _ vs hn hc hb hk hav' hcell h1c hrd =>
    obtain rfl : n = 1 := hn
    have e0 := hcell 0 0 (dI x.tk) (by omega) rfl
    have e1 := hcell 0 1 (dI x.tof) (by omega) rfl
    have r0 := hrd 0 0 (dI x.tk) (by omega) rfl
    have r1 := hrd 0 1 (dI x.tof) (by omega) rfl
    generalize vs 0 0 = u0 at e0 r0
    generalize vs 0 1 = u1 at e1 r1
    cases r0 with
    | int _ _ i0 =>
    cases r1 with
    | int _ _ i1 =>
    have e0 : w.cell? ⟨b, off, none⟩ = some (.int .i64 x.tk) := e0
    have e1 : w.cell? ⟨b, off + 1, none⟩ = some (.int .i64 x.tof) := e1
    obtain ⟨ob, hob⟩ := cell_some e0
    have hlt : b < w.heap.size := lt_of_heap hob
    refine (Tryz.repeat2 b off c x.tk x.tof w e0 e1 hlt).mono ?_
    rintro e w' ⟨rfl, rfl⟩
    refine ⟨_, rfl, ?_, below_drew (RowKit.Below.alloc (RowKit.Below.refl _ _) (Nat.le_refl _) _)⟩
    refine .pl w.heap.size 0 2 2 _ .any (fun i j => bif Nat.beq j 0 then .int .i64 x.tk else .int .i64 x.tof) rfl (Nat.le_refl _) (show 2 * 16 ≤ big by decide) trivial (fun h => by have := hav _ h; omega) (fun i j d hi hd => ?_) (fun i j d hi hd => ?_) (fun i j d hi hd => ?_)
    all_goals (
      match i, hi with
      | 0, _ => match j, hd with
        | 0, hd => cases hd; first | rfl | exact .int _ _ i0 | (show World.cell? (w.alloc _) ⟨_, 0, none⟩ = _; rw [World.cell?_alloc_mark]; rfl)
        | 1, hd => cases hd; first | rfl | exact .int _ _ i1 | (show World.cell? (w.alloc _) ⟨_, 1, none⟩ = _; rw [World.cell?_alloc_mark]; rfl)
        | j + 2, hd => exact absurd hd (by simp [X0, plC, Ty.enc, cTyp])
      | 1, _ => match j, hd with
        | 0, hd => cases hd; first | rfl | exact .int _ _ i0 | (show World.cell? (w.alloc _) ⟨_, 2, none⟩ = _; rw [World.cell?_alloc_mark]; rfl)
        | 1, hd => cases hd; first | rfl | exact .int _ _ i1 | (show World.cell? (w.alloc _) ⟨_, 3, none⟩ = _; rw [World.cell?_alloc_mark]; rfl)
        | j + 2, hd => exact absurd hd (by simp [X0, plC, Ty.enc, cTyp]))

-- the table of blanks

theorem tab_is {w : World} {av : Nat → Prop} (h : GlobOk X0.C X0.glob w av) : Lib.TabIs Tryz.prog w "strings.asciiSpace" .u8 Lib.asciiSpaceTab := by
  have hsp : (Lib.asciiSpaceTab.map fun z => (.int .u8 z : D Pl)) = spc := by kernel_rfl
  obtain ⟨hr, cells, T, fz, hh, hz⟩ := h 0 (Lib.asciiSpaceTab.map fun z => .int .u8 z) (by rw [hsp]; rfl)
  have hcell : ∀ (i : Nat) z, Lib.asciiSpaceTab[i]? = some z → cells[i]? = some (.int .u8 z) := by
    intro i z hi
    generalize hp : Value.pointer (some ⟨0, 0, none⟩) = p at hr
    cases hr with
    | ref _ _ _ vs _ hc _ hrd =>
      cases hp
      have hi' : (Lib.asciiSpaceTab.map fun z => (.int .u8 z : D Pl))[i]? = some (.int .u8 z) := by rw [List.getElem?_map, hi]; rfl
      have h1 := hc i _ hi'
      have h2 := hrd i _ hi'
      generalize vs i = v at h1 h2
      cases h2
      simp only [Nat.zero_add] at h1
      have h3 : w.cell? ⟨0, i, none⟩ = cells[i]? := by simp [World.cell?, hh]
      exact h3.symm.trans h1
  show w.var? _ _ = _
  unfold World.var?
  rw [show Tryz.prog.globalNamed "strings.asciiSpace" = some 0 by kernel_rfl]
  simp only [Option.bind_some, hh, Option.some.injEq]
  refine Array.ext' ?_
  refine List.ext_getElem? fun i => ?_
  rw [Array.getElem?_toList]
  simp only [List.getElem?_map]
  by_cases hi : i < Lib.asciiSpaceTab.length
  · rw [hcell i _ (List.getElem?_eq_getElem hi), List.getElem?_eq_getElem hi]; rfl
  · rw [List.getElem?_eq_none (by omega), Array.getElem?_eq_none (by rw [List.length_map] at hz; omega)]; rfl

/-- strings.Fields of a text of ASCII letters. -/
theorem fields_sound (s : Str) (l : List Str) (hl : Lib.fields s = l) (ha : (s.all fun b => Nat.blt b.toNat 128) = true) (hs0 : s.length < 1000) (hll : l.length ≤ 1000) (hlx : (l.all fun x => Nat.ble x.length 1000) = true) (h0 : 0 < l.length) :
    Snd 40 [.str s] (.pl (pStrs l) .any) := by
  refine snd_calls Tryz.func40 (by kernel_rfl) (by kernel_rfl) rfl fun w av vs hg hs hr hav => ?_
  obtain ⟨v0, rfl⟩ := args1 hs
  have hr0 := hr 0 _ _ rfl rfl
  have hbig : big = 140737488355328 := rfl
  rw [List.all_eq_true] at ha hlx
  cases hr0 with
  | str b _ hb hlb =>
    subst hb
    have hsz : b.size = b.data.toList.length := by simp
    refine (Any.strings_Fields_laid (ρ := Tryz.laysM157_ren) Tryz.laysM157 b w (by rw [hsz]; omega) (fun j x hj => by
      have := ha x (List.mem_of_getElem? hj)
      simpa using this) (tab_is hg)).mono ?_
    rintro e w' ⟨rfl, rfl⟩
    rw [hl]
    refine ⟨_, rfl, ?_, RowKit.Below.alloc (RowKit.Below.refl _ _) (Nat.le_refl _) _⟩
    refine .pl w.heap.size 0 _ _ (pStrs l) .any (fun i j => .string ⟨(l.getD i []).toArray⟩) rfl (Nat.le_refl _) (show l.length * 16 ≤ big by omega) trivial (fun h => by have := hav _ h; omega) (fun i j d hi hd => ?_) (fun i j d hi hd => rfl) (fun i j d hi hd => ?_)
    · have hj : j = 0 := by
        cases j with
        | zero => rfl
        | succ j => exact absurd hd (by simp [X0, plC, Ty.enc])
      subst hj
      show World.cell? (w.alloc _) ⟨_, 0 + (i * 1 + 0), none⟩ = _
      rw [World.cell?_alloc_mark, Nat.zero_add, Nat.mul_one, Nat.add_zero]
      simp only [List.getElem?_toArray, List.getElem?_map, List.getElem?_eq_getElem hi, Option.map_some, List.getD_eq_getElem?_getD, Option.getD_some]
    · have hj : j = 0 := by
        cases j with
        | zero => rfl
        | succ j => exact absurd hd (by simp [X0, plC, Ty.enc])
      subst hj
      have hd : some (.str (l.getD i []) : D Pl) = some d := hd
      simp only [Option.some.injEq] at hd
      subst hd
      have := hlx (l.getD i []) (by rw [List.getD_eq_getElem?_getD, List.getElem?_eq_getElem hi]; simp)
      rw [Nat.ble_eq] at this
      exact .str _ _ rfl (by show (l.getD i []).length ≤ big; omega)

/-- strings.Join of two texts. -/
theorem join_sound (x y s : Str) (hx : x.length ≤ 1000) (hy : y.length ≤ 1000) (hs0 : s.length ≤ 1000) : Snd 75 [.pl (pStrs [x, y]) .any, .str s] (.str (x ++ s ++ y)) := by
  refine snd_calls Tryz.func75 (by kernel_rfl) (by kernel_rfl) rfl fun w av vs hg hs hr hav => ?_
  obtain ⟨v0, v1, rfl⟩ := args2 hs
  have h0 := hr 0 _ _ rfl rfl
  have h1 := hr 1 _ _ rfl rfl
  have hbig : big = 140737488355328 := rfl
  cases h1 with
  | str sp _ hsp _ =>
  subst hsp
  cases h0 with
  | pl0 _ _ _ _ hl hk => exact absurd hl (by simp [X0, plC])
  | pl b off n c _ _ vs hn hc hb hk hav' hcell h1c hrd =>
    obtain rfl : n = 2 := hn
    have e0 := hcell 0 0 (.str x) (by omega) rfl
    have e1 := hcell 1 0 (.str y) (by omega) rfl
    have r0 := hrd 0 0 (.str x) (by omega) rfl
    have r1 := hrd 1 0 (.str y) (by omega) rfl
    generalize vs 0 0 = u0 at e0 r0
    generalize vs 1 0 = u1 at e1 r1
    cases r0 with
    | str bx _ hbx _ =>
    cases r1 with
    | str by_ _ hby _ =>
    subst hbx hby
    have e0 : w.cell? ⟨b, off, none⟩ = some (.string bx) := e0
    have e1 : w.cell? ⟨b, off + 1, none⟩ = some (.string by_) := e1
    obtain ⟨ob, hob⟩ := cell_some e0
    have hlt : b < w.heap.size := lt_of_heap hob
    have hj : Lib.join ([bx, by_].map (·.data.toList)) sp.data.toList = bx.data.toList ++ sp.data.toList ++ by_.data.toList := by
      simp [Lib.join, List.intercalate]
    refine (Any.strings_Join (ρ := Tryz.lays156_ren) Tryz.lays156 Tryz.extra156 b off c [bx, by_] sp w (fun j z hz => by
      match j, hz with
      | 0, hz => simp at hz; subst hz; exact e0
      | 1, hz => simp at hz; subst hz; exact e1
      | j + 2, hz => simp at hz) hlt (by simp) (by simpa using hc) (by rw [hj]; simp only [List.length_append]; omega)).mono ?_
    rintro e w' ⟨rfl, hbl⟩
    refine ⟨_, rfl, ?_, hbl⟩
    rw [hj]
    exact .str _ _ rfl (by simp only [List.length_append]; omega)

-- slices.Clone of texts

theorem clone_nil : ev tell0 noTL 3 61 [.pl (pStrs []) (.nil true)] = some .nilS := by kernel_rfl
theorem clone_some (l : List Str) : ev tell0 noTL 3 61 [.pl (pStrs l) (.nil false)] = bif (true && Nat.ble (((pStrs []).l.length + l.length) * 16) big) then some (.ow [] (.pl (pStrs l) .any)) else none := by kernel_rfl
theorem clone_sound (l : List Str) (k : SK) : Snd 61 [.pl (pStrs l) k] (.pl (pStrs l) .any) := by
  refine SoundAt.room (pre := []) (post := []) fun hroom => SoundAt.nilOr (pre := []) (post := []) fun b hb => ?_
  cases b with
  | true =>
    have hl : l = [] := List.length_eq_zero_iff.1 (hb rfl)
    subst hl
    exact (snd_of (tell0_ok _) (noTL_ok _ _) clone_nil).weaken (.nil _ rfl)
  | false =>
    have : Nat.ble (((pStrs []).l.length + l.length) * 16) big = true := by
      rw [Nat.ble_eq]
      have hr : l.length * 16 ≤ big := hroom
      simpa using hr
    exact (snd_of (tell0_ok _) (noTL_ok _ _) ((clone_some l).trans (by rw [this]; rfl))).unow
end Go.Proofs.YtjldjhcadcofoaaGreatDoor
