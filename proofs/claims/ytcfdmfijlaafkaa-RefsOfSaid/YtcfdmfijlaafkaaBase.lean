/-
  WHAT THE DOCUMENT's EXAMPLE COMES TO, and a copy of names: contracts that the seat's proofs share.
-/
import Derived.Test.YtcfdmfijlaafkaaCtx
namespace Go.Proofs.Ytcfdmfijlaafkaa
open Go.Eng

set_option maxRecDepth 100000

abbrev Snd (f : FuncId) (ds : List (D Pl)) (d : D Pl) : Prop := SoundAt X0.P X0.C X0.glob f ds d

instance : Inhabited (D Pl) := ⟨.bad⟩
instance : Inhabited (Ex × St Pl) := ⟨(.ret, ⟨[], []⟩)⟩

abbrev TOk (R : Eng.Told Pl) : Prop := ToldOk X0 R
abbrev LOk (TL : LoopsT Pl) : Prop := TLOk X0 F0 TL

/-- A function's value, evaluated. -/
noncomputable abbrev ev (R : Eng.Told Pl) (TL : LoopsT Pl) (n : Nat) (f : FuncId) (ds : List (D Pl)) : Option (D Pl) := callK X0 F0 R TL n f ds (fun d => some d)

/-- What evaluation comes to is so. -/
theorem snd_of {R : Eng.Told Pl} (hR : TOk R) {TL : LoopsT Pl} (hTL : LOk TL) {n : Nat} {f : FuncId} {ds : List (D Pl)} {d : D Pl} (h : ev R TL n f ds = some d) (hlt : Nat.blt f 1000000 = true := by rfl) : Snd f ds d := by
  obtain ⟨e, he, hs⟩ := callK_sound xok fok hR hTL h
  simp only [Option.some.injEq] at he
  subst he
  exact hs.1 hlt

/-- A function's body, evaluated: what it calls is told, or evaluated too; its loops are told. -/
noncomputable abbrev evF (R : Eng.Told Pl) (TL : LoopsT Pl) (L : LK Pl) (n : Nat) (fn : Func) (ds : List (D Pl)) : Option (D Pl) := fnK X0 (callK X0 F0 R TL n) L fn ds (fun d => some d)

theorem snd_fn {R : Eng.Told Pl} (hR : TOk R) {TL : LoopsT Pl} (hTL : LOk TL) {L : LK Pl} {n : Nat} {f : FuncId} {fn : Func} {ds : List (D Pl)} {d : D Pl} (hf : F0 f = some fn) (hL : ∀ code, fn.body = some code → ∀ b ∈ loopsOf code, LoopOk X0 L b)
    (h : evF R TL L n fn ds = some d) : Snd f ds d := by
  obtain ⟨e, he, hs⟩ := bodyK_sound xok fok hR hTL hf hL h
  simp only [Option.some.injEq] at he
  subst he
  exact hs

abbrev SndM (f : FuncId) (H : Obs Pl) (ds : List (D Pl)) (d : D Pl) (H' : Obs Pl) : Prop := SoundM X0.P X0.C X0.glob f H ds d H'

/-- A body that writes, evaluated. -/
noncomputable abbrev evM (R : Eng.Told Pl) (TL : LoopsT Pl) (L : LK Pl) (n : Nat) (fn : Func) (H : Obs Pl) (ds : List (D Pl)) : Option (D Pl) := fnM X0 (callK X0 F0 R TL n) L fn H ds (fun d => some d)

theorem snd_m {R : Eng.Told Pl} (hR : TOk R) {TL : LoopsT Pl} (hTL : LOk TL) {L : LK Pl} {n : Nat} {f : FuncId} {fn : Func} {H : Obs Pl} {ds : List (D Pl)} {d : D Pl} {os : List (D Pl)} (hf : F0 f = some fn) (hL : ∀ code, fn.body = some code → ∀ b ∈ loopsOf code, LoopOk X0 L b)
    (h : evM R TL L n fn H ds = some (.env os d)) : SndM f H ds d (decH os) := by
  obtain ⟨os', d', he, hs⟩ := bodyM_sound xok fok hR hTL hf hL h
  simp only [Option.some.injEq, D.env.injEq] at he
  obtain ⟨rfl, rfl⟩ := he
  exact hs

/-- Code from a state on, evaluated; of what is there in the end these slots are kept. -/
noncomputable abbrev evC (R : Eng.Told Pl) (TL : LoopsT Pl) (L : LK Pl) (n : Nat) (code : Code) (keep : List Nat) (S : St Pl) : Option (Ex × St Pl) :=
  exec X0 (callK X0 F0 R TL n) L code S (fun e S => some (e, maskS (keepOf keep) S))

abbrev GoesTo (code : Code) (S : St Pl) (e : Ex) (S' : St Pl) : Prop := Goes X0 code S e S'

theorem goes_of {R : Eng.Told Pl} (hR : TOk R) {TL : LoopsT Pl} (hTL : LOk TL) {L : LK Pl} {n : Nat} {code : Code} {keep : List Nat} {S S' : St Pl} {e : Ex} (hL : ∀ b ∈ loopsOf code, LoopOk X0 L b)
    (h : evC R TL L n code keep S = some (e, S')) : GoesTo code S e S' := by
  obtain ⟨e1, S1, h1, h2⟩ := body_goes xok fok hR hTL hL h
  simp only [Option.some.injEq, Prod.mk.injEq] at h1
  obtain ⟨rfl, rfl⟩ := h1
  exact h2.post _

/-- The same, and these names are let go. -/
noncomputable abbrev evD (R : Eng.Told Pl) (TL : LoopsT Pl) (L : LK Pl) (n : Nat) (code : Code) (keep lose : List Nat) (S : St Pl) : Option (Ex × St Pl) :=
  exec X0 (callK X0 F0 R TL n) L code S (fun e S => some (e, normS (keepOf keep) (keepOf lose) S))

theorem goes_ofD {R : Eng.Told Pl} (hR : TOk R) {TL : LoopsT Pl} (hTL : LOk TL) {L : LK Pl} {n : Nat} {code : Code} {keep lose : List Nat} {S S' : St Pl} {e : Ex} (hL : ∀ b ∈ loopsOf code, LoopOk X0 L b)
    (h : evD R TL L n code keep lose S = some (e, S')) : GoesTo code S e S' := by
  obtain ⟨e1, S1, h1, h2⟩ := body_goes xok fok hR hTL hL h
  simp only [Option.some.injEq, Prod.mk.injEq] at h1
  obtain ⟨rfl, rfl⟩ := h1
  exact h2.norm xok _ _

/-- The loops of a function; the n-th. -/
noncomputable def loopsAt (f : FuncId) : List Code := match F0 f with
  | some fn => match fn.body with
    | some c => loopsOf c
    | none => []
  | none => []
noncomputable def loopAt (f : FuncId) (n : Nat) : Code := ((loopsAt f)[n]?).getD .skip

theorem loops_of {f : FuncId} {fn : Func} (hf : F0 f = some fn) {L : LK Pl} (h : ∀ i, i < (loopsAt f).length → LoopOk X0 L (loopAt f i)) : ∀ code, fn.body = some code → ∀ b ∈ loopsOf code, LoopOk X0 L b := by
  intro code hc b hb
  have he : loopsAt f = loopsOf code := by unfold loopsAt; rw [hf]; simp only [hc]
  obtain ⟨i, hi, rfl⟩ := List.mem_iff_getElem.1 hb
  have := h i (by rw [he]; exact hi)
  unfold loopAt at this
  rw [he, List.getElem?_eq_getElem hi] at this
  exact this

theorem noLoops {code : Code} (h : loopsOf code = []) {L : LK Pl} : ∀ b ∈ loopsOf code, LoopOk X0 L b := by rw [h]; intro b hb; simp at hb

theorem loops_0 {f : FuncId} (h : (loopsAt f).length = 0) {L : LK Pl} : ∀ i, i < (loopsAt f).length → LoopOk X0 L (loopAt f i) := by intro i hi; omega

theorem loops_1 {f : FuncId} (h : (loopsAt f).length = 1) {L : LK Pl} (h0 : LoopOk X0 L (loopAt f 0)) : ∀ i, i < (loopsAt f).length → LoopOk X0 L (loopAt f i) := by
  intro i hi
  obtain rfl : i = 0 := by omega
  exact h0

theorem loops_2 {f : FuncId} (h : (loopsAt f).length = 2) {L : LK Pl} (h0 : LoopOk X0 L (loopAt f 0)) (h1 : LoopOk X0 L (loopAt f 1)) : ∀ i, i < (loopsAt f).length → LoopOk X0 L (loopAt f i) := by
  intro i hi
  match i, (show i < 2 by omega) with
  | 0, _ => exact h0
  | 1, _ => exact h1

end Go.Proofs.Ytcfdmfijlaafkaa
