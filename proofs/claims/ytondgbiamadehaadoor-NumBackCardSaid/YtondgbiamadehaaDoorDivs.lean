/-
  THE QUOTIENT AND WHAT IS LEFT: the program and the document answer alike; and back again.
-/
import Derived.Test.YtondgbiamadehaaDoorMuls
namespace Go.Proofs.YtondgbiamadehaaDoor
open Go.Eng

set_option maxRecDepth 100000

def seven : Option (D Pl) := some (.tup [dI 0, dI 7])
theorem e9 (a b : Int) : ev tell0 noTL 2 9 [dI a, dI b] = bif b == 0 then seven else bif (bif a == -9223372036854775808 then b == -1 else false) then no6 else ck_ (!(b == 0) || false) (yes0 (i64 (a.tdiv b))) := by kernel_rfl
theorem e10 (a b : Int) : ev tell0 noTL 2 10 [dI a, dI b] = bif b == 0 then seven else bif b == -1 then yes0 0 else ck_ (!(b == 0) || false) (yes0 (a.tmod b)) := by kernel_rfl

def divV (a b : Int) : Int × Int := if b = 0 then (0, 7) else nar (a.tdiv b)
def modV (a b : Int) : Int × Int := if b = 0 then (0, 7) else (a.tmod b, 0)

/-- the quotient is as great as what was divided, or less -/
theorem tdiv_small (a b : Int) : (0 ≤ a → - a ≤ a.tdiv b ∧ a.tdiv b ≤ a) ∧ (a ≤ 0 → a ≤ a.tdiv b ∧ a.tdiv b ≤ -a) := by
  have h : (a.tdiv b).natAbs ≤ a.natAbs := by
    rw [Int.natAbs_tdiv]
    exact Nat.div_le_self _ _
  constructor <;> intro h0 <;> omega

theorem tdiv_edge {a b : Int} (ha : okI a) (hno : ¬ (a = -9223372036854775808 ∧ b = -1)) : okI (a.tdiv b) := by
  have h := tdiv_small a b
  unfold okI at *
  by_cases h0 : a = -9223372036854775808
  · have hb : b ≠ -1 := fun h => hno ⟨h0, h⟩
    have h1 := h.2 (by omega)
    refine ⟨by omega, ?_⟩
    subst h0
    have e : (Int.tdiv (-9223372036854775808) b).natAbs = 9223372036854775808 / b.natAbs := by rw [Int.natAbs_tdiv]; rfl
    by_cases hb1 : b.natAbs = 1
    · obtain rfl : b = 1 := by omega
      decide
    · by_cases hb0 : b.natAbs = 0
      · obtain rfl : b = 0 := by omega
        decide
      · have : 9223372036854775808 / b.natAbs ≤ 9223372036854775808 / 2 := Nat.div_le_div_left (by omega) (by omega)
        omega
  · by_cases h1 : 0 ≤ a
    · have := h.1 h1; omega
    · have := h.2 (by omega); omega

theorem div_sound (a b : Int) : Snd 9 [dI a, dI b] (prD (divV a b)) := by
  refine SoundAt.rooms fun hroom => snd_of (tell0_ok _) (noTL_ok _ _) ((e9 a b).trans ?_)
  have ha : okI a := okI_room hroom (by simp)
  unfold divV
  by_cases hb : b = 0
  · rw [if_pos hb, hb]; rfl
  · rw [if_neg hb, show (b == 0) = false from beq_eq_false_iff_ne.2 hb]
    by_cases hno : a = -9223372036854775808 ∧ b = -1
    · obtain ⟨rfl, rfl⟩ := hno
      rfl
    · have hc : (bif a == -9223372036854775808 then b == -1 else false) = false := by
        by_cases h1 : a = -9223372036854775808
        · rw [show (a == -9223372036854775808) = true by simp [h1], cond_true, beq_eq_false_iff_ne]
          exact fun h => hno ⟨h1, h⟩
        · rw [show (a == -9223372036854775808) = false from beq_eq_false_iff_ne.2 h1, cond_false]
      rw [hc]
      have hin := tdiv_edge ha hno
      rw [nar_yes0 hin (y := i64 (a.tdiv b)) (by unfold okI at hin; rw [wi]; omega)]
      rfl

theorem mod_sound (a b : Int) : Snd 10 [dI a, dI b] (prD (modV a b)) := by
  refine snd_of (tell0_ok _) (noTL_ok _ _) ((e10 a b).trans ?_)
  unfold modV
  by_cases hb : b = 0
  · rw [if_pos hb, hb]; rfl
  · rw [if_neg hb, show (b == 0) = false from beq_eq_false_iff_ne.2 hb]
    by_cases h1 : b = -1
    · subst h1
      rw [show a.tmod (-1) = 0 by rw [Int.tmod_neg, Int.tmod_one]]; rfl
    · rw [show (b == -1) = false from beq_eq_false_iff_ne.2 h1]; rfl

def t3 (x y i : Int) : Option (D Pl) := some (.tup [dI x, dI y, dI i])
def outD (x y : W5) (q rest : Int) : Option (D Pl) := bif !(x.b == y.b) then t3 (i64 (w64 (0 - q))) rest 0 else bif decide (q > 9223372036854775807) then t3 0 rest 6 else t3 (i64 q) rest 0
theorem e11 (a b : Int) : ev (tW tell0) noTL 2 11 [dI a, dI b] = bif b == 0 then t3 0 0 7 else
    ck_ (!(uW (ofN b) == 0) || false) (ck_ (!(uW (ofN b) == 0) || false) (bif decide (a < 0) then outD (ofN a) (ofN b) (w64 ((uW (ofN a)).tdiv (uW (ofN b)))) (i64 (w64 (0 - (uW (ofN a)).tmod (uW (ofN b)))))
      else outD (ofN a) (ofN b) (w64 ((uW (ofN a)).tdiv (uW (ofN b)))) (i64 ((uW (ofN a)).tmod (uW (ofN b)))))) := by kernel_rfl

def rdV (a b : Int) : Int × Int × Int := if b = 0 then (0, 0, 7) else ((nar (a.tdiv b)).1, a.tmod b, (nar (a.tdiv b)).2)

theorem uW_of {a : Int} (ha : okI a) : uW (ofN a) = (if a < 0 then -a else a) := by
  obtain ⟨k, s, v, -, h2, h3, h4⟩ := of_sg ha
  have hv : (ofN a).val = (ofN a).d0 + 4294967296 * (ofN a).d1 := by unfold W5.val; omega
  have k0 := k.h0
  have k1 := k.h1
  unfold okd at k0 k1
  unfold uW
  rw [wu, wu, show B32 = 4294967296 from rfl, ← v, hv]
  omega

theorem refDiv_sound (a b : Int) : Snd 11 [dI a, dI b] (.tup [dI (rdV a b).1, dI (rdV a b).2.1, dI (rdV a b).2.2]) := by
  refine SoundAt.rooms fun hroom => snd_of (tW_ok (tell0_ok _)) (noTL_ok _ _) ((e11 a b).trans ?_)
  have ha : okI a := okI_room hroom (by simp)
  have hb : okI b := okI_room hroom (by simp)
  unfold rdV
  by_cases h0 : b = 0
  · rw [if_pos h0, h0]; rfl
  · rw [if_neg h0, show (b == 0) = false from beq_eq_false_iff_ne.2 h0, cond_false, uW_of ha, uW_of hb]
    have hn : ¬ (if b < 0 then -b else b) = 0 := by split <;> omega
    rw [ck_t (by rw [show ((if b < 0 then -b else b) == 0) = false from beq_eq_false_iff_ne.2 hn]; rfl), ck_t (by rw [show ((if b < 0 then -b else b) == 0) = false from beq_eq_false_iff_ne.2 hn]; rfl)]
    obtain ⟨-, -, -, hba, -⟩ := of_sg ha
    obtain ⟨-, -, -, hbb, -⟩ := of_sg hb
    unfold outD
    rw [hba, hbb]
    have hq := tdiv_small a b
    have hr : (a.tmod b).natAbs ≤ a.natAbs := by rw [Int.natAbs_tmod]; exact Nat.mod_le _ _
    have hrs : (0 ≤ a → 0 ≤ a.tmod b) ∧ (a ≤ 0 → a.tmod b ≤ 0) := ⟨fun h => Int.tmod_nonneg _ h, fun h => by
      have := Int.tmod_nonneg b (show 0 ≤ -a by omega)
      rw [Int.neg_tmod] at this; omega⟩
    unfold okI at ha hb
    by_cases h1 : a < 0 <;> by_cases h2 : b < 0
    · rw [if_pos h1, if_pos h2, decide_eq_true h1, decide_eq_true h2, Int.neg_tdiv, Int.tdiv_neg, Int.neg_neg, Int.neg_tmod, Int.tmod_neg]
      have hqs : 0 ≤ a.tdiv b := Int.tdiv_nonneg_of_nonpos_of_nonpos (by omega) (by omega)
      have e1 : w64 (a.tdiv b) = a.tdiv b := by rw [wu]; have := hq.2 (by omega); omega
      have e2 : i64 (w64 (0 - -a.tmod b)) = a.tmod b := by rw [wi, wu]; have := hrs.2 (by omega); omega
      rw [e1, e2]
      by_cases hg : a.tdiv b > 9223372036854775807
      · rw [decide_eq_true hg, show nar (a.tdiv b) = (0, 6) by unfold nar; rw [if_neg (by omega)]]; rfl
      · have hin : okI (a.tdiv b) := by unfold okI; omega
        rw [decide_eq_false hg, nar_yes hin, show i64 (a.tdiv b) = a.tdiv b by rw [wi]; omega]; rfl
    · rw [if_pos h1, if_neg h2, decide_eq_true h1, decide_eq_false h2, Int.neg_tdiv, Int.neg_tmod]
      have hqs : a.tdiv b ≤ 0 := by
        have h5 := Int.tdiv_nonneg (show 0 ≤ -a by omega) (show 0 ≤ b by omega)
        rw [Int.neg_tdiv] at h5; omega
      have hin : okI (a.tdiv b) := tdiv_edge (by unfold okI; omega) (by omega)
      have hq2 := hq.2 (by omega)
      rw [nar_yes hin]
      unfold okI at hin
      have e1 : i64 (w64 (0 - w64 (-a.tdiv b))) = a.tdiv b := by rw [wi, wu, wu]; omega
      have e2 : i64 (w64 (0 - -a.tmod b)) = a.tmod b := by rw [wi, wu]; have := hrs.2 (by omega); omega
      rw [e1, e2]; rfl
    · rw [if_neg h1, if_pos h2, decide_eq_false h1, decide_eq_true h2, Int.tdiv_neg, Int.tmod_neg]
      have hqs : a.tdiv b ≤ 0 := by
        have h5 := Int.tdiv_nonneg (show 0 ≤ a by omega) (show 0 ≤ -b by omega)
        rw [Int.tdiv_neg] at h5; omega
      have hin : okI (a.tdiv b) := tdiv_edge (by unfold okI; omega) (by omega)
      have hq2 := hq.1 (by omega)
      rw [nar_yes hin]
      unfold okI at hin
      have e1 : i64 (w64 (0 - w64 (-a.tdiv b))) = a.tdiv b := by rw [wi, wu, wu]; omega
      have e2 : i64 (a.tmod b) = a.tmod b := by rw [wi]; have := hrs.1 (by omega); omega
      rw [e1, e2]; rfl
    · rw [if_neg h1, if_neg h2, decide_eq_false h1, decide_eq_false h2]
      have hqs : 0 ≤ a.tdiv b := Int.tdiv_nonneg (by omega) (by omega)
      have hq2 := hq.1 (by omega)
      have e1 : w64 (a.tdiv b) = a.tdiv b := by rw [wu]; omega
      have e2 : i64 (a.tmod b) = a.tmod b := by rw [wi]; have := hrs.1 (by omega); omega
      have hin : okI (a.tdiv b) := by unfold okI; omega
      rw [e1, e2, decide_eq_false (by omega), nar_yes hin, show i64 (a.tdiv b) = a.tdiv b by rw [wi]; omega]; rfl

def tD (R : Eng.Told Pl) : Eng.Told Pl := tell 9 (pI2 fun a b => prD (divV a b)) (tell 10 (pI2 fun a b => prD (modV a b)) (tell 11 (pI2 fun a b => .tup [dI (rdV a b).1, dI (rdV a b).2.1, dI (rdV a b).2.2]) R))
theorem tD_ok {R : Eng.Told Pl} (h : TOk R) : TOk (tD R) := tell_ok (pI2_ok div_sound) (tell_ok (pI2_ok mod_sound) (tell_ok (pI2_ok refDiv_sound) h))

def and_ (x y : Bool) : Bool := bif x then y else false
theorem e3 (a b : Int) : ev (tAwake (tD tell0)) noTL 1 3 [dI a, dI b] = bif (rdV a b).2.2 == 7 then
      (bif (and_ (and_ (and_ ((divV a b).1 == 0) ((modV a b).1 == 0)) ((divV a b).2 == 7)) ((modV a b).2 == 7)) == true then yes else no)
    else (bif (and_ (and_ (and_ ((divV a b).1 == (rdV a b).1) ((divV a b).2 == (rdV a b).2.2)) ((modV a b).1 == (rdV a b).2.1)) ((modV a b).2 == 0)) == true then yes else no) := by kernel_rfl

theorem nar_not7 (z : Int) : ((nar z).2 == 7) = false := by unfold nar; split <;> rfl

theorem divs_sound (a b : Int) : Snd 3 [dI a, dI b] (.bool true) := by
  refine snd_of (tAwake_ok (tD_ok (tell0_ok _))) (noTL_ok _ _) ((e3 a b).trans ?_)
  unfold rdV divV modV
  by_cases h0 : b = 0
  · rw [if_pos h0, if_pos h0, if_pos h0]; rfl
  · rw [if_neg h0, if_neg h0, if_neg h0]
    simp only [nar_not7, cond_false, beq_self_eq_true]
    rfl

def or_ (x y : Bool) : Bool := bif x then true else y
def rest8 (a b : Int) : Option (D Pl) := bif or_ ((divV a b).2 != 0) ((modV a b).2 != 0) then yes else
  (bif (and_ (and_ ((nar ((divV a b).1 * b)).2 == 0) ((nar ((nar ((divV a b).1 * b)).1 + (modV a b).1)).2 == 0)) ((nar ((nar ((divV a b).1 * b)).1 + (modV a b).1)).1 == a)) == true then yes else no)
theorem e8 (a b : Int) : ev (tAwake (tell 27 (pI2 fun a b => prD (nar (a * b))) (tA (tD tell0)))) noTL 1 8 [dI a, dI b] =
    bif (nar (a + b)).2 == 0 then (bif or_ ((nar ((nar (a + b)).1 - b)).1 != a) ((nar ((nar (a + b)).1 - b)).2 != 0) then no else rest8 a b) else rest8 a b := by kernel_rfl

theorem rest8_yes {a b : Int} (ha : okI a) (hb : okI b) : rest8 a b = yes := by
  unfold rest8 divV modV
  by_cases h0 : b = 0
  · rw [if_pos h0, if_pos h0]; rfl
  · rw [if_neg h0, if_neg h0]
    by_cases hno : a = -9223372036854775808 ∧ b = -1
    · obtain ⟨rfl, rfl⟩ := hno; rfl
    · have hin := tdiv_edge ha hno
      rw [nar_yes hin]
      have hr : (a.tmod b).natAbs ≤ a.natAbs := by rw [Int.natAbs_tmod]; exact Nat.mod_le _ _
      have hrs : (0 ≤ a → 0 ≤ a.tmod b) ∧ (a ≤ 0 → a.tmod b ≤ 0) := ⟨fun h => Int.tmod_nonneg _ h, fun h => by
        have := Int.tmod_nonneg b (show 0 ≤ -a by omega)
        rw [Int.neg_tmod] at this; omega⟩
      have he : a.tdiv b * b + a.tmod b = a := Int.tdiv_mul_add_tmod a b
      have hp : okI (a.tdiv b * b) := by
        unfold okI at *
        by_cases h1 : 0 ≤ a
        · have := hrs.1 h1; omega
        · have := hrs.2 (by omega); omega
      rw [show (a.tdiv b, (0 : Int)).1 = a.tdiv b from rfl, nar_yes hp, show (a.tdiv b * b, (0 : Int)).1 = a.tdiv b * b from rfl, he, nar_yes ha]
      simp only [beq_self_eq_true]
      rfl

theorem back_sound (a b : Int) : Snd 8 [dI a, dI b] (.bool true) := by
  refine SoundAt.rooms fun hroom => snd_of (tAwake_ok (tell_ok (pI2_ok mul_sound) (tA_ok (tD_ok (tell0_ok _))))) (noTL_ok _ _) ((e8 a b).trans ?_)
  have ha : okI a := okI_room hroom (by simp)
  have hb : okI b := okI_room hroom (by simp)
  rw [rest8_yes ha hb]
  by_cases hin : okI (a + b)
  · rw [nar_yes hin, show (a + b, (0 : Int)).1 - b = a by simp, nar_yes ha]
    simp [or_]
    rfl
  · have : (nar (a + b)).2 = 6 := by unfold nar; unfold okI at hin; rw [if_neg hin]
    rw [this]; rfl

end Go.Proofs.YtondgbiamadehaaDoor
