/-
  WHAT MAY BE, by the program and by the document: names, keys, addresses, objects; the law answers true.
-/
import Derived.Test.YtlfohmdclcdejaaDoorWord
import Derived.Test.YtlfohmdclcdejaaDoorOrder
namespace Go.Proofs.YtlfohmdclcdejaaDoor
open Go.Eng

set_option maxRecDepth 100000

def tW (R : Eng.Told Pl) : Eng.Told Pl := tell 14 (pS fun s => .bool (nameV s)) (tell 16 (pS fun s => .bool (spelt wordB s)) (tell 15 (pS fun s => .bool (nameV s)) (tell 17 (pS fun s => .bool (spelt wordB s)) R)))
theorem tW_ok {R : Eng.Told Pl} (h : TOk R) : TOk (tW R) := tell_ok (pS_ok name_sound) (tell_ok (pS_ok word_sound) (tell_ok (pS_ok refName_sound) (tell_ok (pS_ok refWord_sound) h)))

def err0 (b : Bool) : Option (D Pl) := bif b then some (dI 1) else some (dI 0)
def err1 : Option (D Pl) := some (dI 1)

theorem e11 (a : KeyR) : ev (tW tell0) noTL 2 12 [.agg (cAd a)] = bif (nameV a.ty == true) then
    (bif a.kind == 0 then err0 (!(bif (bif nameV a.name then a.i == 0 else false) then a.k == [] else false))
     else bif a.kind == 1 then err0 (!(bif (bif (bif nameV a.name then decide (a.i ≥ 0) else false) then decide (a.i < 128) else false) then a.k == [] else false))
     else bif a.kind == 2 then (bif ((bif nameV a.name then a.i == 0 else false) == true) then err0 (!(spelt wordB a.k)) else err1) else err1)
    else (bif a.kind == 0 then err1 else bif a.kind == 1 then err1 else bif a.kind == 2 then err1 else err1) := by kernel_rfl

def okA (a : KeyR) : Bool := bif nameV a.ty then (bif nameV a.name then (bif a.kind == 0 then (bif a.i == 0 then a.k == [] else false) else bif a.kind == 1 then (bif (bif decide (a.i ≥ 0) then decide (a.i < 128) else false) then a.k == [] else false)
  else bif a.kind == 2 then (bif a.i == 0 then spelt wordB a.k else false) else false) else false) else false

theorem check_sound (a : KeyR) : Snd 12 [.agg (cAd a)] (dI (bif okA a then 0 else 1)) := by
  refine snd_of (tW_ok (tell0_ok _)) (noTL_ok _ _) ((e11 a).trans ?_)
  unfold okA
  cases nameV a.ty with
  | false => cases a.kind == 0 <;> cases a.kind == 1 <;> cases a.kind == 2 <;> rfl
  | true =>
    cases nameV a.name with
    | false => cases a.kind == 0 <;> cases a.kind == 1 <;> cases a.kind == 2 <;> rfl
    | true =>
      cases a.kind == 0 with
      | true => cases a.i == 0 <;> cases a.k == [] <;> rfl
      | false =>
        cases a.kind == 1 with
        | true => cases decide (a.i ≥ 0) <;> cases decide (a.i < 128) <;> cases a.k == [] <;> rfl
        | false => cases a.kind == 2 <;> cases a.i == 0 <;> cases spelt wordB a.k <;> rfl

theorem e17 (a : KeyR) : ev (tW tell0) noTL 2 18 [.agg (cAd a)] = bif ((!(nameV a.ty)) == false) then
    (bif !(nameV a.name) then some (.bool false) else
     bif a.kind == 0 then some (.bool (bif a.i == 0 then a.k == [] else false))
     else bif a.kind == 1 then some (.bool (bif (bif decide (a.i ≥ 0) then decide (a.i < 128) else false) then a.k == [] else false))
     else bif a.kind == 2 then (bif ((a.i == 0) == true) then some (.bool (spelt wordB a.k)) else some (.bool false)) else some (.bool false))
    else some (.bool false) := by kernel_rfl

theorem refCheck_sound (a : KeyR) : Snd 18 [.agg (cAd a)] (.bool (okA a)) := by
  refine snd_of (tW_ok (tell0_ok _)) (noTL_ok _ _) ((e17 a).trans ?_)
  unfold okA
  cases nameV a.ty with
  | false => rfl
  | true =>
    cases nameV a.name with
    | false => rfl
    | true =>
      cases a.kind == 0 with
      | true => rfl
      | false =>
        cases a.kind == 1 with
        | true => rfl
        | false => cases a.kind == 2 <;> cases a.i == 0 <;> rfl

def tC (R : Eng.Told Pl) : Eng.Told Pl := tell 12 (pA1 fun a => dI (bif okA a then 0 else 1)) (tell 18 (pA1 fun a => .bool (okA a)) R)
theorem tC_ok {R : Eng.Told Pl} (h : TOk R) : TOk (tC R) := tell_ok (pA1_ok check_sound) (tell_ok (pA1_ok refCheck_sound) h)

theorem e12 (a : KeyR) : ev (tC tell0) noTL 2 13 [.agg (cK a)] = bif a.n == 0 then err1 else some (dI (bif okA (ad0 a) then 0 else 1)) := by kernel_rfl
theorem e18 (a : KeyR) : ev (tC tell0) noTL 2 19 [.agg (cK a)] = some (.bool (bif okA (ad0 a) then decide (a.n > 0) else false)) := by kernel_rfl

def okK (a : KeyR) : Bool := bif okA (ad0 a) then !(a.n == 0) else false
theorem checkK_sound (a : KeyR) : Snd 13 [.agg (cK a)] (dI (bif okK a then 0 else 1)) := by
  refine snd_of (tC_ok (tell0_ok _)) (noTL_ok _ _) ((e12 a).trans ?_)
  unfold okK
  cases a.n == 0 <;> cases okA (ad0 a) <;> rfl
theorem refCheckK_sound (a : KeyR) : Snd 19 [.agg (cK a)] (.bool (okK a)) := by
  refine SoundAt.rooms fun hroom => snd_of (tC_ok (tell0_ok _)) (noTL_ok _ _) ((e18 a).trans ?_)
  have h : inR .u32 a.n = true := hroom (.agg (cK a)) (by simp) (.int .u32 a.n) (by simp [cK])
  unfold okK
  have : decide (a.n > 0) = !(a.n == 0) := by
    simp only [inR, Bool.and_eq_true, decide_eq_true_eq] at h
    have h1 : (0 : Int) ≤ a.n := h.1
    by_cases h0 : a.n = 0
    · simp [h0]
    · rw [decide_eq_true (by omega), show (a.n == 0) = false from beq_eq_false_iff_ne.2 h0]; rfl
  rw [this]

def pK1 (f : KeyR → D Pl) : List (D Pl) → Option (Bool × D Pl)
  | [.agg x] => match dKy x with
    | some a => some (true, f a)
    | none => none
  | _ => none
theorem pK1_ok {g : FuncId} {f : KeyR → D Pl} (hf : ∀ a, Snd g [.agg (cK a)] (f a)) : ∀ ds b d, pK1 f ds = some (b, d) → b = true → Snd g ds d := by
  intro ds b d h hb
  unfold pK1 at h
  split at h
  · split at h
    · rename_i h1
      simp only [Option.some.injEq, Prod.mk.injEq] at h
      obtain ⟨_, rfl⟩ := h
      rw [dKy_eq h1]
      exact hf _
    · simp at h
  · simp at h

def tChk : Eng.Told Pl := tell 6 (pA1 fun a => .bool (grt a)) (tAwake (tell 13 (pK1 fun a => dI (bif okK a then 0 else 1)) (tell 19 (pK1 fun a => .bool (okK a)) (tC (tW tell0)))))
theorem tChk_ok : TOk tChk := tell_ok (pA1_ok fun a => snd_of (tell0_ok _) (noTL_ok _ _) (e5 a)) (tAwake_ok (tell_ok (pK1_ok checkK_sound) (tell_ok (pK1_ok refCheckK_sound) (tC_ok (tW_ok (tell0_ok _))))))

def eA (a : KeyR) : Int := bif okA (ad0 a) then 0 else 1
def eK (a : KeyR) : Int := bif okK a then 0 else 1
def one_ (e : Int) : Bool := bif (e == 0) then true else e == 1

theorem e4 (a : KeyR) (s : Str) : ev tChk noTL 1 4 [.agg (cK a), .str s] = bif (bif grt (ad0 a) then true else decide ((s.length : Int) > 200)) then yes else
    bif (nameV s == nameV s) == true then (bif (spelt wordB s == spelt wordB s) == true then (bif (((eA a == 0) == okA (ad0 a)) == true) then
      (bif ((bif (bif ((eK a == 0) == okK a) then one_ (eA a) else false) then one_ (eK a) else false) == true) then yes else no) else no) else no) else no := by kernel_rfl

theorem checks_sound (a : KeyR) (s : Str) : Snd 4 [.agg (cK a), .str s] (.bool true) := by
  refine snd_of tChk_ok (noTL_ok _ _) ((e4 a s).trans ?_)
  unfold eA eK
  rw [beq_self_eq_true (nameV s), beq_self_eq_true (spelt wordB s)]
  simp only [beq_self_eq_true, cond_true]
  cases (bif grt (ad0 a) then true else decide ((s.length : Int) > 200)) <;> cases okA (ad0 a) <;> cases okK a <;> rfl

end Go.Proofs.YtlfohmdclcdejaaDoor
