/-
  SUM, DIFFERENCE, A TURNED SIGN: the program and the document answer alike.
-/
import Derived.Test.YtondgbiamadehaaDoorMath
namespace Go.Proofs.YtondgbiamadehaaDoor
open Go.Eng

set_option maxRecDepth 100000

def pI1 (f : Int → D Pl) : List (D Pl) → Option (Bool × D Pl)
  | [.int .i64 c] => some (true, f c)
  | _ => none
theorem pI1_ok {g : FuncId} {f : Int → D Pl} (hf : ∀ c, Snd g [dI c] (f c)) : ∀ ds b d, pI1 f ds = some (b, d) → b = true → Snd g ds d := by
  intro ds b d h hb
  unfold pI1 at h
  split at h
  · simp only [Option.some.injEq, Prod.mk.injEq] at h; obtain ⟨_, rfl⟩ := h; exact hf _
  · simp at h
def pI2 (f : Int → Int → D Pl) : List (D Pl) → Option (Bool × D Pl)
  | [.int .i64 a, .int .i64 b] => some (true, f a b)
  | _ => none
theorem pI2_ok {g : FuncId} {f : Int → Int → D Pl} (hf : ∀ a b, Snd g [dI a, dI b] (f a b)) : ∀ ds b d, pI2 f ds = some (b, d) → b = true → Snd g ds d := by
  intro ds b d h hb
  unfold pI2 at h
  split at h
  · simp only [Option.some.injEq, Prod.mk.injEq] at h; obtain ⟨_, rfl⟩ := h; exact hf _ _
  · simp at h
def pW1 (f : W5 → D Pl) : List (D Pl) → Option (Bool × D Pl)
  | [.agg x] => match dW x with
    | some a => some (true, f a)
    | none => none
  | _ => none
theorem pW1_ok {g : FuncId} {f : W5 → D Pl} (hf : ∀ a, Snd g [.agg (cW a)] (f a)) : ∀ ds b d, pW1 f ds = some (b, d) → b = true → Snd g ds d := by
  intro ds b d h hb
  unfold pW1 at h
  split at h
  · split at h
    · rename_i h1
      simp only [Option.some.injEq, Prod.mk.injEq] at h
      obtain ⟨_, rfl⟩ := h
      rw [dW_eq h1]
      exact hf _
    · simp at h
  · simp at h
def pW2 (f : W5 → W5 → D Pl) : List (D Pl) → Option (Bool × D Pl)
  | [.agg x, .agg y] => match dW x, dW y with
    | some a, some b => some (true, f a b)
    | _, _ => none
  | _ => none
theorem pW2_ok {g : FuncId} {f : W5 → W5 → D Pl} (hf : ∀ a b, Snd g [.agg (cW a), .agg (cW b)] (f a b)) : ∀ ds b d, pW2 f ds = some (b, d) → b = true → Snd g ds d := by
  intro ds b d h hb
  unfold pW2 at h
  split at h
  · split at h
    · rename_i h1 h2
      simp only [Option.some.injEq, Prod.mk.injEq] at h
      obtain ⟨_, rfl⟩ := h
      rw [dW_eq h1, dW_eq h2]
      exact hf _ _
    · simp at h
  · simp at h

def sgnU (n : Int) : Int := (w64 n).fdiv 9223372036854775808
theorem e35 (n : Int) : ev tell0 noTL 2 35 [dI n] = some (dU (sgnU n)) := by kernel_rfl
theorem sgnU_eq {n : Int} (h : okI n) : sgnU n = if n < 0 then 1 else 0 := by
  unfold okI at h
  unfold sgnU
  rw [wu, Int.fdiv_eq_ediv_of_nonneg _ (by omega)]
  split <;> omega

def tS (R : Eng.Told Pl) : Eng.Told Pl := tell 35 (pI1 fun c => dU (sgnU c)) R
theorem tS_ok {R : Eng.Told Pl} (h : TOk R) : TOk (tS R) := tell_ok (pI1_ok fun c => snd_of (tell0_ok _) (noTL_ok _ _) (e35 c)) h

theorem e20 (a b : Int) : ev (tS tell0) noTL 2 20 [dI a, dI b] = bif (sgnU a == sgnU b) == true then (bif sgnU (i64 (a + b)) != sgnU a then no6 else yes0 (i64 (a + b))) else yes0 (i64 (a + b)) := by kernel_rfl
theorem e21 (a b : Int) : ev (tS tell0) noTL 2 21 [dI a, dI b] = bif (sgnU a != sgnU b) == true then (bif sgnU (i64 (a - b)) != sgnU a then no6 else yes0 (i64 (a - b))) else yes0 (i64 (a - b)) := by kernel_rfl

theorem nar_no {z : Int} (h : z < -9223372036854775808 ∨ z > 9223372036854775807) : some (prD (nar z)) = no6 := by
  unfold nar; rw [if_neg (by omega)]; rfl
theorem nar_yes {z : Int} (h : okI z) : nar z = (z, 0) := by
  unfold okI at h; unfold nar; rw [if_pos h]
theorem nar_yes0 {z y : Int} (h : okI z) (hy : y = z) : some (prD (nar z)) = yes0 y := by
  subst hy; rw [nar_yes h]; rfl
theorem okI_wrap (n : Int) : okI (i64 n) := by rw [wi]; unfold okI; omega

theorem sgn_ne {a b : Int} (ha : okI a) (hb : okI b) : (sgnU a != sgnU b) = (decide (a < 0) != decide (b < 0)) := by
  rw [sgnU_eq ha, sgnU_eq hb]
  by_cases h1 : a < 0 <;> by_cases h2 : b < 0 <;> simp [h1, h2]
theorem sgn_eq {a b : Int} (ha : okI a) (hb : okI b) : (sgnU a == sgnU b) = (decide (a < 0) == decide (b < 0)) := by
  rw [sgnU_eq ha, sgnU_eq hb]
  by_cases h1 : a < 0 <;> by_cases h2 : b < 0 <;> simp [h1, h2]

theorem okI_room {ds : List (D Pl)} (hroom : ∀ d ∈ ds, Room X0.C d) {a : Int} (hm : dI a ∈ ds) : okI a := by
  have h : inR .i64 a = true := hroom _ hm
  simp only [inR, Bool.and_eq_true, decide_eq_true_eq] at h
  exact h

theorem add_sound (a b : Int) : Snd 20 [dI a, dI b] (prD (nar (a + b))) := by
  refine SoundAt.rooms fun hroom => snd_of (tS_ok (tell0_ok _)) (noTL_ok _ _) ((e20 a b).trans ?_)
  have ha : okI a := okI_room hroom (by simp)
  have hb : okI b := okI_room hroom (by simp)
  rw [sgn_eq ha hb, sgn_ne (okI_wrap _) ha]
  unfold okI at ha hb
  have hw := wi (a + b)
  by_cases hin : okI (a + b)
  · have e : i64 (a + b) = a + b := by unfold okI at hin; omega
    rw [nar_yes0 hin e, e]
    unfold okI at hin
    by_cases h1 : a < 0 <;> by_cases h2 : b < 0 <;> by_cases h3 : a + b < 0 <;> simp [h1, h2, h3] <;> omega
  · rw [nar_no (by unfold okI at hin; omega)]
    unfold okI at hin
    by_cases h1 : a < 0 <;> by_cases h2 : b < 0 <;> by_cases h3 : i64 (a + b) < 0 <;> simp [h1, h2, h3] <;> omega

theorem sub_sound (a b : Int) : Snd 21 [dI a, dI b] (prD (nar (a - b))) := by
  refine SoundAt.rooms fun hroom => snd_of (tS_ok (tell0_ok _)) (noTL_ok _ _) ((e21 a b).trans ?_)
  have ha : okI a := okI_room hroom (by simp)
  have hb : okI b := okI_room hroom (by simp)
  rw [sgn_ne ha hb, sgn_ne (okI_wrap _) ha]
  unfold okI at ha hb
  have hw := wi (a - b)
  by_cases hin : okI (a - b)
  · have e : i64 (a - b) = a - b := by unfold okI at hin; omega
    rw [nar_yes0 hin e, e]
    unfold okI at hin
    by_cases h1 : a < 0 <;> by_cases h2 : b < 0 <;> by_cases h3 : a - b < 0 <;> simp [h1, h2, h3] <;> omega
  · rw [nar_no (by unfold okI at hin; omega)]
    unfold okI at hin
    by_cases h1 : a < 0 <;> by_cases h2 : b < 0 <;> by_cases h3 : i64 (a - b) < 0 <;> simp [h1, h2, h3] <;> omega

theorem e22 (a : Int) : ev (tell 21 (pI2 fun a b => prD (nar (a - b))) tell0) noTL 2 22 [dI a] = some (prD (nar (0 - a))) := by kernel_rfl
theorem neg_sound (a : Int) : Snd 22 [dI a] (prD (nar (0 - a))) := snd_of (tell_ok (pI2_ok sub_sound) (tell0_ok _)) (noTL_ok _ _) (e22 a)

/-- what the document's code answers, whatever the digits -/
def narW (a : W5) : Int × Int := bif (bif (bif a.d2 != 0 then true else a.d3 != 0) then true else a.d4 != 0) then (0, 6) else bif a.b then (bif decide (uW a > 9223372036854775808) then (0, 6) else (i64 (w64 (0 - uW a)), 0))
    else (bif decide (uW a > 9223372036854775807) then (0, 6) else (i64 (uW a), 0))
theorem narW_eq (a : W5) : (bif (bif (bif a.d2 != 0 then true else a.d3 != 0) then true else a.d4 != 0) then no6 else bif a.b then (bif decide (uW a > 9223372036854775808) then no6 else yes0 (i64 (w64 (0 - uW a))))
    else (bif decide (uW a > 9223372036854775807) then no6 else yes0 (i64 (uW a)))) = some (prD (narW a)) := by
  unfold narW
  cases (bif (bif a.d2 != 0 then true else a.d3 != 0) then true else a.d4 != 0) <;> cases a.b <;> cases decide (uW a > 9223372036854775808) <;> cases decide (uW a > 9223372036854775807) <;> rfl
theorem narW_nar {a : W5} (h : a.ok) : narW a = nar a.sg := by
  have h1 := (narW_eq a).symm.trans (narrow_eq h)
  simp only [Option.some.injEq, prD, D.tup.injEq, List.cons.injEq, and_true] at h1
  exact Prod.ext (D.int.inj h1.1).2 (D.int.inj h1.2).2
theorem narrow_sound (a : W5) : Snd 23 [.agg (cW a)] (prD (narW a)) := snd_of (tell0_ok _) (noTL_ok _ _) ((e23 a).trans (narW_eq a))

def tW (R : Eng.Told Pl) : Eng.Told Pl := tell 23 (pW1 fun a => prD (narW a)) (tell 24 (pW2 fun a b => .agg (cW (sumW a b))) (tell 25 (pI1 fun a => .agg (cW (ofN a))) (tell 26 (pW1 fun a => .agg (cW (turnW a))) (tell 28 (pW2 fun a b => .agg (cW (timesW a b))) R))))
theorem tW_ok {R : Eng.Told Pl} (h : TOk R) : TOk (tW R) :=
  tell_ok (pW1_ok narrow_sound) (tell_ok (pW2_ok sum_sound) (tell_ok (pI1_ok of_sound) (tell_ok (pW1_ok fun a => snd_of (tell0_ok _) (noTL_ok _ _) (e26 a)) (tell_ok (pW2_ok fun a b => snd_of (t5_ok (tell0_ok _)) (noTL_ok _ _) (e28 a b)) h))))

def tA (R : Eng.Told Pl) : Eng.Told Pl := tell 20 (pI2 fun a b => prD (nar (a + b))) (tell 21 (pI2 fun a b => prD (nar (a - b))) (tell 22 (pI1 fun a => prD (nar (0 - a))) R))
theorem tA_ok {R : Eng.Told Pl} (h : TOk R) : TOk (tA R) := tell_ok (pI2_ok add_sound) (tell_ok (pI2_ok sub_sound) (tell_ok (pI1_ok neg_sound) h))

def yes : Option (D Pl) := some (.bool true)
def no : Option (D Pl) := some (.bool false)
def both (p q : Int × Int) (r : Bool) : Bool := bif (bif r then p.1 == q.1 else false) then p.2 == q.2 else false
theorem both_self (p : Int × Int) (r : Bool) : both p p r = r := by unfold both; cases r <;> simp

theorem e6 (a b : Int) : ev (tAwake (tA (tW tell0))) noTL 1 6 [dI a, dI b] =
    bif both (nar (0 - a)) (narW (turnW (ofN a))) (both (nar (a - b)) (narW (sumW (ofN a) (turnW (ofN b)))) (both (nar (a + b)) (narW (sumW (ofN a) (ofN b))) true)) == true then yes else no := by kernel_rfl

theorem adds_sound (a b : Int) : Snd 6 [dI a, dI b] (.bool true) := by
  refine SoundAt.rooms fun hroom => snd_of (tAwake_ok (tA_ok (tW_ok (tell0_ok _)))) (noTL_ok _ _) ((e6 a b).trans ?_)
  have ha : okI a := okI_room hroom (by simp)
  have hb : okI b := okI_room hroom (by simp)
  obtain ⟨k1, s1, v1, -⟩ := of_sg ha
  obtain ⟨k2, s2, v2, -⟩ := of_sg hb
  have k3 : (turnW (ofN a)).ok := ok_with k1 _
  have k4 : (turnW (ofN b)).ok := ok_with k2 _
  have v4 : (turnW (ofN b)).val = (ofN b).val := rfl
  unfold okI at ha hb
  obtain ⟨q1, q2⟩ := sum_sg k1 k2 (by rw [v1, v2]; split <;> split <;> omega)
  obtain ⟨q3, q4⟩ := sum_sg k1 k4 (by rw [v4, v1, v2]; split <;> split <;> omega)
  rw [narW_nar k3, narW_nar q1, narW_nar q3, q2, q4, turn_sg, turn_sg, s1, s2, show a + -b = a - b by omega, show -a = 0 - a by omega, both_self, both_self, both_self]
  rfl

end Go.Proofs.YtondgbiamadehaaDoor
