/-
  THE PRODUCT: the program and the document answer alike.
-/
import Derived.Test.YtondgbiamadehaaDoorAdds
namespace Go.Proofs.YtondgbiamadehaaDoor
open Go.Eng

set_option maxRecDepth 100000

def sizeU (a : Int) : Int := bif decide (a < 0) then w64 (0 - w64 a) else w64 a
theorem e40 (a : Int) : ev tell0 noTL 2 40 [dI a] = bif decide (a < 0) then some (dU (w64 (0 - w64 a))) else some (dU (w64 a)) := by kernel_rfl
theorem size_sound (a : Int) : Snd 40 [dI a] (dU (sizeU a)) := by
  refine snd_of (tell0_ok _) (noTL_ok _ _) ((e40 a).trans ?_)
  unfold sizeU
  cases decide (a < 0) <;> rfl

def low32 (x : Int) : Int := bitsE .and .u64 x 4294967295
def hi32 (x : Int) : Int := x.fdiv 4294967296
def midF (a b : Int) : Int := w64 (w64 (hi32 a * low32 b) + hi32 (w64 (low32 a * low32 b)))
def hiF (a b : Int) : Int := w64 (w64 (w64 (hi32 a * hi32 b) + hi32 (midF a b)) + hi32 (w64 (low32 (midF a b) + w64 (low32 a * hi32 b))))
theorem e39 (a b : Int) : ev tell0 noTL 2 39 [dU a, dU b] = some (.tup [dU (hiF a b), dU (w64 (a * b))]) := by kernel_rfl

def pU2 (f : Int → Int → D Pl) : List (D Pl) → Option (Bool × D Pl)
  | [.int .u64 a, .int .u64 b] => some (true, f a b)
  | _ => none
theorem pU2_ok {g : FuncId} {f : Int → Int → D Pl} (hf : ∀ a b, Snd g [dU a, dU b] (f a b)) : ∀ ds b d, pU2 f ds = some (b, d) → b = true → Snd g ds d := by
  intro ds b d h hb
  unfold pU2 at h
  split at h
  · simp only [Option.some.injEq, Prod.mk.injEq] at h; obtain ⟨_, rfl⟩ := h; exact hf _ _
  · simp at h

def tM (R : Eng.Told Pl) : Eng.Told Pl := tell 39 (pU2 fun a b => .tup [dU (hiF a b), dU (w64 (a * b))]) (tell 40 (pI1 fun a => dU (sizeU a)) (tS R))
theorem tM_ok {R : Eng.Told Pl} (h : TOk R) : TOk (tM R) := tell_ok (pU2_ok fun a b => snd_of (tell0_ok _) (noTL_ok _ _) (e39 a b)) (tell_ok (pI1_ok size_sound) (tS_ok h))

def lowF (a b : Int) : Int := w64 (sizeU a * sizeU b)
def neF (a b : Int) : Bool := sgnU a != sgnU b
def outM (a b : Int) : Option (D Pl) := bif neF a b then yes0 (i64 (w64 (0 - lowF a b))) else yes0 (i64 (lowF a b))
theorem e27 (a b : Int) : ev (tM tell0) noTL 2 27 [dI a, dI b] = bif neF a b then (bif (bif hiF (sizeU a) (sizeU b) != 0 then true else decide (lowF a b > 9223372036854775808)) then no6 else outM a b)
    else (bif (bif hiF (sizeU a) (sizeU b) != 0 then true else decide (lowF a b > 9223372036854775807)) then no6 else outM a b) := by kernel_rfl

theorem low32_eq {x : Int} (h : 0 ≤ x) (h2 : x < 18446744073709551616) : low32 x = x % 4294967296 := by
  unfold low32 bitsE
  simp only
  rw [show IntKind.u64.wrap ((BitVec.ofInt IntKind.u64.bits x &&& BitVec.ofInt IntKind.u64.bits 4294967295).toNat : Int) = w64 ((BitVec.ofInt 64 x &&& BitVec.ofInt 64 4294967295).toNat : Int) from rfl, BitVec.toNat_and, BitVec.toNat_ofInt,
    show (BitVec.ofInt 64 4294967295).toNat = 2 ^ 32 - 1 by decide, Nat.and_two_pow_sub_one_eq_mod, wu]
  omega
theorem hi32_eq {x : Int} : hi32 x = x / 4294967296 := by
  unfold hi32
  exact Int.fdiv_eq_ediv_of_nonneg _ (by omega)

theorem prod_le {u v : Int} (hu : okd u) (hv : okd v) : 0 ≤ u * v ∧ u * v ≤ 18446744065119617025 := by
  unfold okd at hu hv
  refine ⟨Int.mul_nonneg hu.1 hv.1, ?_⟩
  have := Int.mul_le_mul (show u ≤ 4294967295 by omega) (show v ≤ 4294967295 by omega) hv.1 (by omega)
  omega

theorem expand (a0 a1 b0 b1 : Int) : (a0 + 4294967296 * a1) * (b0 + 4294967296 * b1) = a0 * b0 + 4294967296 * (a0 * b1) + 4294967296 * (a1 * b0) + 18446744073709551616 * (a1 * b1) := by
  have e1 : a0 * (4294967296 * b1) = 4294967296 * (a0 * b1) := Int.mul_left_comm _ _ _
  have e2 : 4294967296 * a1 * b0 = 4294967296 * (a1 * b0) := Int.mul_assoc _ _ _
  have e3 : 4294967296 * a1 * (4294967296 * b1) = 18446744073709551616 * (a1 * b1) := by
    rw [Int.mul_assoc, Int.mul_left_comm a1, ← Int.mul_assoc]; rfl
  rw [Int.add_mul, Int.mul_add, Int.mul_add, e1, e2, e3]
  omega

theorem hiF_eq {x y : Int} (hx : 0 ≤ x ∧ x < 18446744073709551616) (hy : 0 ≤ y ∧ y < 18446744073709551616) : hiF x y = x * y / 18446744073709551616 := by
  have e0 : x = x % 4294967296 + 4294967296 * (x / 4294967296) := by omega
  have e1 : y = y % 4294967296 + 4294967296 * (y / 4294967296) := by omega
  have hxy : x * y = _ := (congr (congrArg HMul.hMul e0) e1).trans (expand (x % 4294967296) (x / 4294967296) (y % 4294967296) (y / 4294967296))
  rw [hxy]
  unfold hiF
  have hm : midF x y = (x / 4294967296) * (y % 4294967296) + ((x % 4294967296) * (y % 4294967296)) / 4294967296 := by
    unfold midF
    rw [low32_eq hx.1 hx.2, low32_eq hy.1 hy.2, hi32_eq, hi32_eq, wu, wu, wu]
    have q1 := prod_le (u := x / 4294967296) (v := y % 4294967296) (by unfold okd; omega) (by unfold okd; omega)
    have q2 := prod_le (u := x % 4294967296) (v := y % 4294967296) (by unfold okd; omega) (by unfold okd; omega)
    generalize (x / 4294967296) * (y % 4294967296) = p10 at *
    generalize (x % 4294967296) * (y % 4294967296) = p00 at *
    omega
  rw [hm]
  have q1 := prod_le (u := x / 4294967296) (v := y % 4294967296) (by unfold okd; omega) (by unfold okd; omega)
  have q2 := prod_le (u := x % 4294967296) (v := y % 4294967296) (by unfold okd; omega) (by unfold okd; omega)
  have q3 := prod_le (u := x / 4294967296) (v := y / 4294967296) (by unfold okd; omega) (by unfold okd; omega)
  have q4 := prod_le (u := x % 4294967296) (v := y / 4294967296) (by unfold okd; omega) (by unfold okd; omega)
  rw [low32_eq hx.1 hx.2, hi32_eq (x := x), hi32_eq (x := y)]
  generalize (x / 4294967296) * (y % 4294967296) = p10 at *
  generalize (x % 4294967296) * (y % 4294967296) = p00 at *
  generalize (x / 4294967296) * (y / 4294967296) = p11 at *
  generalize (x % 4294967296) * (y / 4294967296) = p01 at *
  rw [low32_eq (by omega) (by omega), hi32_eq, hi32_eq, wu, wu, wu, wu, wu]
  omega

theorem size_eq {a : Int} (h : okI a) : sizeU a = if a < 0 then -a else a := by
  unfold okI at h
  unfold sizeU
  by_cases h0 : a < 0
  · rw [decide_eq_true h0, if_pos h0, cond_true, wu, wu]; omega
  · rw [decide_eq_false h0, if_neg h0, cond_false, wu]; omega

theorem mul_sound (a b : Int) : Snd 27 [dI a, dI b] (prD (nar (a * b))) := by
  refine SoundAt.rooms fun hroom => snd_of (tM_ok (tell0_ok _)) (noTL_ok _ _) ((e27 a b).trans ?_)
  have ha : okI a := okI_room hroom (by simp)
  have hb : okI b := okI_room hroom (by simp)
  have hx : 0 ≤ sizeU a ∧ sizeU a ≤ 9223372036854775808 := by rw [size_eq ha]; unfold okI at ha; split <;> omega
  have hy : 0 ≤ sizeU b ∧ sizeU b ≤ 9223372036854775808 := by rw [size_eq hb]; unfold okI at hb; split <;> omega
  have hp : a * b = if neF a b then -(sizeU a * sizeU b) else sizeU a * sizeU b := by
    unfold neF
    rw [sgn_ne ha hb, size_eq ha, size_eq hb]
    by_cases h1 : a < 0 <;> by_cases h2 : b < 0 <;> simp [h1, h2, Int.neg_mul, Int.mul_neg]
  have hpos : 0 ≤ sizeU a * sizeU b := Int.mul_nonneg hx.1 hy.1
  unfold outM
  rw [hiF_eq (by omega) (by omega), hp]
  unfold lowF
  generalize sizeU a * sizeU b = u at *
  rw [wu]
  have hcond : ∀ m : Int, 0 ≤ m → m ≤ 9223372036854775808 → (bif u / 18446744073709551616 != 0 then true else decide (u % 18446744073709551616 > m)) = decide (u > m) := by
    intro m hm hm2
    by_cases h0 : u / 18446744073709551616 = 0
    · rw [show (u / 18446744073709551616 != 0) = false by simp [h0], cond_false, decide_eq_decide]; omega
    · rw [show (u / 18446744073709551616 != 0) = true from bne_iff_ne.2 h0, cond_true, decide_eq_true (by omega)]
  rw [hcond _ (by omega) (by omega), hcond _ (by omega) (by omega)]
  cases neF a b with
  | true =>
    simp only [cond_true, if_true]
    by_cases hg : u > 9223372036854775808
    · rw [decide_eq_true hg, nar_no (by omega)]; rfl
    · rw [decide_eq_false hg, nar_yes0 (y := i64 (w64 (0 - u % 18446744073709551616))) (by unfold okI; omega) (by rw [wi, wu]; omega)]; rfl
  | false =>
    simp only [cond_false, if_false, Bool.false_eq_true]
    by_cases hg : u > 9223372036854775807
    · rw [decide_eq_true hg, nar_no (by omega)]; rfl
    · rw [decide_eq_false hg, nar_yes0 (y := i64 (u % 18446744073709551616)) (by unfold okI; omega) (by rw [wi]; omega)]; rfl

theorem mulD_ok {p : Int} (h : 0 ≤ p ∧ p ≤ 18446744065119617025) : (mulD p 0).ok ∧ (mulD p 0).val = p ∧ (mulD p 1).ok ∧ (mulD p 1).val = 4294967296 * p ∧ (mulD p 2).ok ∧ (mulD p 2).val = 18446744073709551616 * p := by
  simp only [mulD, W5.val]
  rw [tm32 h.1, td32 h.1, wu]
  refine ⟨⟨?_, ?_, ?_, ?_, ?_⟩, ?_, ⟨?_, ?_, ?_, ?_, ?_⟩, ?_, ⟨?_, ?_, ?_, ?_, ?_⟩, ?_⟩
  all_goals first | (dsimp only [okd]; omega) | omega

theorem times_sg {a b : W5} (ha : a.ok) (hb : b.ok) (a2 : a.d2 = 0) (a3 : a.d3 = 0) (a4 : a.d4 = 0) (b2 : b.d2 = 0) (b3 : b.d3 = 0) (b4 : b.d4 = 0) : (timesW a b).ok ∧ (timesW a b).sg = a.sg * b.sg := by
  have va : a.val = a.d0 + 4294967296 * a.d1 := by unfold W5.val; omega
  have vb : b.val = b.d0 + 4294967296 * b.d1 := by unfold W5.val; omega
  have q1 := prod_le ha.h0 hb.h0
  have q2 := prod_le ha.h0 hb.h1
  have q3 := prod_le ha.h1 hb.h0
  have q4 := prod_le ha.h1 hb.h1
  have hw : ∀ p : Int, 0 ≤ p ∧ p ≤ 18446744065119617025 → w64 p = p := by intro p hp; rw [wu]; omega
  have hv : a.val * b.val = a.d0 * b.d0 + 4294967296 * (a.d0 * b.d1) + 4294967296 * (a.d1 * b.d0) + 18446744073709551616 * (a.d1 * b.d1) := by rw [va, vb]; exact expand _ _ _ _
  have z : (⟨false, 0, 0, 0, 0, 0⟩ : W5).ok := ⟨by unfold okd; decide, by unfold okd; decide, by unfold okd; decide, by unfold okd; decide, by unfold okd; decide⟩
  have zv : (⟨false, 0, 0, 0, 0, 0⟩ : W5).val = 0 := by decide
  obtain ⟨m1, n1, -⟩ := mulD_ok q1
  obtain ⟨-, -, m2, n2, -⟩ := mulD_ok q2
  obtain ⟨-, -, m3, n3, -⟩ := mulD_ok q3
  obtain ⟨-, -, -, -, m4, n4⟩ := mulD_ok q4
  obtain ⟨k1, w1, -⟩ := plus_val z m1 (by rw [zv, n1]; omega)
  obtain ⟨k2, w2, -⟩ := plus_val k1 m2 (by rw [w1, zv, n1, n2]; omega)
  obtain ⟨k3, w3, -⟩ := plus_val k2 m3 (by rw [w2, w1, zv, n1, n2, n3]; omega)
  obtain ⟨k4, w4, -⟩ := plus_val k3 m4 (by rw [w3, w2, w1, zv, n1, n2, n3, n4]; omega)
  have hval : (timesW a b).val = a.val * b.val := by
    unfold timesW
    rw [hw _ q1, hw _ q2, hw _ q3, hw _ q4, val_with, w4, w3, w2, w1, zv, n1, n2, n3, n4, hv]
    omega
  refine ⟨?_, ?_⟩
  · unfold timesW
    rw [hw _ q1, hw _ q2, hw _ q3, hw _ q4]
    exact ok_with k4 _
  · unfold W5.sg
    rw [hval]
    show (bif !(a.b == b.b) then _ else _) = _
    cases a.b <;> cases b.b <;> simp [Int.neg_mul, Int.mul_neg]

theorem e7 (a b : Int) : ev (tAwake (tell 27 (pI2 fun a b => prD (nar (a * b))) (tW tell0))) noTL 1 7 [dI a, dI b] =
    bif both (nar (a * b)) (narW (timesW (ofN a) (ofN b))) true == true then yes else no := by kernel_rfl

theorem muls_sound (a b : Int) : Snd 7 [dI a, dI b] (.bool true) := by
  refine SoundAt.rooms fun hroom => snd_of (tAwake_ok (tell_ok (pI2_ok mul_sound) (tW_ok (tell0_ok _)))) (noTL_ok _ _) ((e7 a b).trans ?_)
  have ha : okI a := okI_room hroom (by simp)
  have hb : okI b := okI_room hroom (by simp)
  obtain ⟨k1, s1, -, -, x2, x3, x4⟩ := of_sg ha
  obtain ⟨k2, s2, -, -, y2, y3, y4⟩ := of_sg hb
  obtain ⟨q1, q2⟩ := times_sg k1 k2 x2 x3 x4 y2 y3 y4
  rw [narW_nar q1, q2, s1, s2, both_self]
  rfl

end Go.Proofs.YtondgbiamadehaaDoor
