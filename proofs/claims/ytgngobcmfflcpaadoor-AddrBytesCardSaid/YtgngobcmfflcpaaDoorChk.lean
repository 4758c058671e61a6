/-
  WHAT MAY BE, by the program and by the document: names, keys, addresses, objects.
-/
import Derived.Test.YtgngobcmfflcpaaDoorWord
import Derived.Test.YtgngobcmfflcpaaDoorOrder
namespace Go.Proofs.YtgngobcmfflcpaaDoor
open Go.Eng

set_option maxRecDepth 100000

def tW (R : Eng.Told Pl) : Eng.Told Pl := tell 59 (pS fun s => .bool (nameV s)) (tell 60 (pS fun s => .bool (spelt wordB s)) (tell 42 (pS fun s => .bool (nameV s)) (tell 43 (pS fun s => .bool (spelt wordB s)) R)))
theorem tW_ok {R : Eng.Told Pl} (h : TOk R) : TOk (tW R) := tell_ok (pS_ok name_sound) (tell_ok (pS_ok word_sound) (tell_ok (pS_ok refName_sound) (tell_ok (pS_ok refWord_sound) h)))

def err0 (b : Bool) : Option (D Pl) := bif b then some (dI 1) else some (dI 0)
def err1 : Option (D Pl) := some (dI 1)

theorem e11 (a : KeyR) : ev (tW tell0) noTL 2 41 [.agg (cAd a)] = bif (nameV a.ty == true) then
    (bif a.kind == 0 then err0 (!(bif (bif nameV a.name then a.i == 0 else false) then a.k == [] else false))
     else bif a.kind == 1 then err0 (!(bif (bif (bif nameV a.name then decide (a.i ≥ 0) else false) then decide (a.i < 128) else false) then a.k == [] else false))
     else bif a.kind == 2 then (bif ((bif nameV a.name then a.i == 0 else false) == true) then err0 (!(spelt wordB a.k)) else err1) else err1)
    else (bif a.kind == 0 then err1 else bif a.kind == 1 then err1 else bif a.kind == 2 then err1 else err1) := by kernel_rfl

def okA (a : KeyR) : Bool := bif nameV a.ty then (bif nameV a.name then (bif a.kind == 0 then (bif a.i == 0 then a.k == [] else false) else bif a.kind == 1 then (bif (bif decide (a.i ≥ 0) then decide (a.i < 128) else false) then a.k == [] else false)
  else bif a.kind == 2 then (bif a.i == 0 then spelt wordB a.k else false) else false) else false) else false

theorem check_sound (a : KeyR) : Snd 41 [.agg (cAd a)] (dI (bif okA a then 0 else 1)) := by
  refine snd_of (tW_ok (tell0_ok _)) (noTL_ok _ _) ((e11 a).trans ?_)
  unfold okA
  cases nameV a.ty with
  | false => cases a.kind == 0 <;> cases a.kind == 1 <;> cases a.kind == 2 <;> rfl
  | true =>
    cases nameV a.name with
    | false => cases a.kind == 0 <;> cases a.kind == 1 <;> cases a.kind == 2 <;> rfl
    | true =>
      cases a.kind == 0 with
      | true => cases a.i == 0 <;> cases a.k == [] <;> rfl
      | false =>
        cases a.kind == 1 with
        | true => cases decide (a.i ≥ 0) <;> cases decide (a.i < 128) <;> cases a.k == [] <;> rfl
        | false => cases a.kind == 2 <;> cases a.i == 0 <;> cases spelt wordB a.k <;> rfl

theorem e17 (a : KeyR) : ev (tW tell0) noTL 2 25 [.agg (cAd a)] = bif ((!(nameV a.ty)) == false) then
    (bif !(nameV a.name) then some (.bool false) else
     bif a.kind == 0 then some (.bool (bif a.i == 0 then a.k == [] else false))
     else bif a.kind == 1 then some (.bool (bif (bif decide (a.i ≥ 0) then decide (a.i < 128) else false) then a.k == [] else false))
     else bif a.kind == 2 then (bif ((a.i == 0) == true) then some (.bool (spelt wordB a.k)) else some (.bool false)) else some (.bool false))
    else some (.bool false) := by kernel_rfl

theorem refCheck_sound (a : KeyR) : Snd 25 [.agg (cAd a)] (.bool (okA a)) := by
  refine snd_of (tW_ok (tell0_ok _)) (noTL_ok _ _) ((e17 a).trans ?_)
  unfold okA
  cases nameV a.ty with
  | false => rfl
  | true =>
    cases nameV a.name with
    | false => rfl
    | true =>
      cases a.kind == 0 with
      | true => rfl
      | false =>
        cases a.kind == 1 with
        | true => rfl
        | false => cases a.kind == 2 <;> cases a.i == 0 <;> rfl

def tC (R : Eng.Told Pl) : Eng.Told Pl := tell 41 (pA1 fun a => dI (bif okA a then 0 else 1)) (tell 25 (pA1 fun a => .bool (okA a)) R)
theorem tC_ok {R : Eng.Told Pl} (h : TOk R) : TOk (tC R) := tell_ok (pA1_ok check_sound) (tell_ok (pA1_ok refCheck_sound) h)

theorem e12 (a : KeyR) : ev (tC tell0) noTL 2 21 [.agg (cK a)] = bif a.n == 0 then err1 else some (dI (bif okA (ad0 a) then 0 else 1)) := by kernel_rfl
theorem e18 (a : KeyR) : ev (tC tell0) noTL 2 9 [.agg (cK a)] = some (.bool (bif okA (ad0 a) then decide (a.n > 0) else false)) := by kernel_rfl

def okK (a : KeyR) : Bool := bif okA (ad0 a) then !(a.n == 0) else false
theorem checkK_sound (a : KeyR) : Snd 21 [.agg (cK a)] (dI (bif okK a then 0 else 1)) := by
  refine snd_of (tC_ok (tell0_ok _)) (noTL_ok _ _) ((e12 a).trans ?_)
  unfold okK
  cases a.n == 0 <;> cases okA (ad0 a) <;> rfl
theorem refCheckK_sound (a : KeyR) : Snd 9 [.agg (cK a)] (.bool (okK a)) := by
  refine SoundAt.rooms fun hroom => snd_of (tC_ok (tell0_ok _)) (noTL_ok _ _) ((e18 a).trans ?_)
  have h : inR .u32 a.n = true := hroom (.agg (cK a)) (by simp) (.int .u32 a.n) (by simp [cK])
  unfold okK
  have : decide (a.n > 0) = !(a.n == 0) := by
    simp only [inR, Bool.and_eq_true, decide_eq_true_eq] at h
    have h1 : (0 : Int) ≤ a.n := h.1
    by_cases h0 : a.n = 0
    · simp [h0]
    · rw [decide_eq_true (by omega), show (a.n == 0) = false from beq_eq_false_iff_ne.2 h0]; rfl
  rw [this]

def pK1 (f : KeyR → D Pl) : List (D Pl) → Option (Bool × D Pl)
  | [.agg x] => match dKy x with
    | some a => some (true, f a)
    | none => none
  | _ => none
theorem pK1_ok {g : FuncId} {f : KeyR → D Pl} (hf : ∀ a, Snd g [.agg (cK a)] (f a)) : ∀ ds b d, pK1 f ds = some (b, d) → b = true → Snd g ds d := by
  intro ds b d h hb
  unfold pK1 at h
  split at h
  · split at h
    · rename_i h1
      simp only [Option.some.injEq, Prod.mk.injEq] at h
      obtain ⟨_, rfl⟩ := h
      rw [dKy_eq h1]
      exact hf _
    · simp at h
  · simp at h

/-- Where it is known whether an object may be. -/
def pCk (b : Bool) : List (D Pl) → Option (Bool × D Pl)
  | [.agg x] => match dKy x with
    | some a => some (okK a == b, dI (bif b then 0 else 1))
    | none => none
  | _ => none
theorem pCk_ok (bb : Bool) : ∀ ds b d, pCk bb ds = some (b, d) → b = true → Snd 21 ds d := by
  intro ds b d h hb
  unfold pCk at h
  split at h
  · split at h
    · rename_i x a h1
      simp only [Option.some.injEq, Prod.mk.injEq] at h
      obtain ⟨rfl, rfl⟩ := h
      rw [dKy_eq h1]
      have := checkK_sound a
      rw [beq_iff_eq] at hb
      rw [hb] at this
      exact this
    · simp at h
  · simp at h
def pRCk (b : Bool) : List (D Pl) → Option (Bool × D Pl)
  | [.agg x] => match dKy x with
    | some a => some (okK a == b, .bool b)
    | none => none
  | _ => none
theorem pRCk_ok (bb : Bool) : ∀ ds b d, pRCk bb ds = some (b, d) → b = true → Snd 9 ds d := by
  intro ds b d h hb
  unfold pRCk at h
  split at h
  · split at h
    · rename_i x a h1
      simp only [Option.some.injEq, Prod.mk.injEq] at h
      obtain ⟨rfl, rfl⟩ := h
      rw [dKy_eq h1]
      have := refCheckK_sound a
      rw [beq_iff_eq] at hb
      rw [hb] at this
      exact this
    · simp at h
  · simp at h
end Go.Proofs.YtgngobcmfflcpaaDoor
