/-
  WIDE NUMBERS: what they stand for. Sum, difference, product; the number that a wide one is. Plain law.
-/
import Derived.Test.YtondgbiamadehaaDoorWide
namespace Go.Proofs.YtondgbiamadehaaDoor
open Go.Eng

theorem wu (n : Int) : w64 n = n % 18446744073709551616 := by simp [w64, IntKind.wrap, IntKind.bits, IntKind.signed]
theorem wi (n : Int) : i64 n = (n + 9223372036854775808) % 18446744073709551616 - 9223372036854775808 := IntKind.wrap_i64 n
theorem tm32 {n : Int} (h : 0 ≤ n) : n.tmod B32 = n % 4294967296 := Int.tmod_eq_emod_of_nonneg h
theorem td32 {n : Int} (h : 0 ≤ n) : n.tdiv B32 = n / 4294967296 := Int.tdiv_eq_ediv_of_nonneg h

/-- as many as there are -/
def W5.val (w : W5) : Int := w.d0 + 4294967296 * w.d1 + 18446744073709551616 * w.d2 + 79228162514264337593543950336 * w.d3 + 340282366920938463463374607431768211456 * w.d4
def okd (d : Int) : Prop := 0 ≤ d ∧ d < 4294967296
structure W5.ok (w : W5) : Prop where
  h0 : okd w.d0
  h1 : okd w.d1
  h2 : okd w.d2
  h3 : okd w.d3
  h4 : okd w.d4
def W5.sg (w : W5) : Int := bif w.b then - w.val else w.val

theorem digit {x y c : Int} (hx : okd x) (hy : okd y) (hc : 0 ≤ c ∧ c ≤ 1) : w64 (w64 (x + y) + c) = x + y + c ∧ okd ((x + y + c).tmod B32) ∧ 0 ≤ w64 ((x + y + c).tdiv B32) ∧ w64 ((x + y + c).tdiv B32) ≤ 1 ∧
    x + y + c = (x + y + c).tmod B32 + 4294967296 * w64 ((x + y + c).tdiv B32) := by
  obtain ⟨h1, h2⟩ := hx
  obtain ⟨h3, h4⟩ := hy
  rw [wu, wu, wu, tm32 (by omega), td32 (by omega)]
  unfold okd
  omega

theorem plus_val {a b : W5} (ha : a.ok) (hb : b.ok) (hs : a.val + b.val < 1461501637330902918203684832716283019655932542976) : (plusW a b).ok ∧ (plusW a b).val = a.val + b.val ∧ (plusW a b).b = false := by
  obtain ⟨e0, k0, l0, u0, s0⟩ := digit ha.h0 hb.h0 (c := 0) (by omega)
  obtain ⟨e1, k1, l1, u1, s1⟩ := digit ha.h1 hb.h1 (c := w64 ((a.d0 + b.d0 + 0).tdiv B32)) ⟨l0, u0⟩
  obtain ⟨e2, k2, l2, u2, s2⟩ := digit ha.h2 hb.h2 (c := w64 ((a.d1 + b.d1 + w64 ((a.d0 + b.d0 + 0).tdiv B32)).tdiv B32)) ⟨l1, u1⟩
  obtain ⟨e3, k3, l3, u3, s3⟩ := digit ha.h3 hb.h3 (c := w64 ((a.d2 + b.d2 + w64 ((a.d1 + b.d1 + w64 ((a.d0 + b.d0 + 0).tdiv B32)).tdiv B32)).tdiv B32)) ⟨l2, u2⟩
  obtain ⟨e4, k4, l4, u4, s4⟩ := digit ha.h4 hb.h4 (c := w64 ((a.d3 + b.d3 + w64 ((a.d2 + b.d2 + w64 ((a.d1 + b.d1 + w64 ((a.d0 + b.d0 + 0).tdiv B32)).tdiv B32)).tdiv B32)).tdiv B32)) ⟨l3, u3⟩
  refine ⟨⟨?_, ?_, ?_, ?_, ?_⟩, ?_, rfl⟩
  · simp only [plusW, e0]; exact k0
  · simp only [plusW, e0, e1]; exact k1
  · simp only [plusW, e0, e1, e2]; exact k2
  · simp only [plusW, e0, e1, e2, e3]; exact k3
  · simp only [plusW, e0, e1, e2, e3, e4]; exact k4
  · simp only [plusW, W5.val, e0, e1, e2, e3, e4] at *
    generalize w64 ((a.d0 + b.d0 + 0).tdiv B32) = c0 at *
    generalize w64 ((a.d1 + b.d1 + c0).tdiv B32) = c1 at *
    generalize w64 ((a.d2 + b.d2 + c1).tdiv B32) = c2 at *
    generalize w64 ((a.d3 + b.d3 + c2).tdiv B32) = c3 at *
    generalize w64 ((a.d4 + b.d4 + c3).tdiv B32) = c4 at *
    generalize (a.d0 + b.d0 + 0).tmod B32 = m0 at *
    generalize (a.d1 + b.d1 + c0).tmod B32 = m1 at *
    generalize (a.d2 + b.d2 + c1).tmod B32 = m2 at *
    generalize (a.d3 + b.d3 + c2).tmod B32 = m3 at *
    generalize (a.d4 + b.d4 + c3).tmod B32 = m4 at *
    unfold okd at *
    omega

theorem borrow {x y c : Int} (hx : okd x) (hy : okd y) (hc : 0 ≤ c ∧ c ≤ 1) : w64 (w64 (w64 (x + B32) - y) - c) = x + 4294967296 - y - c ∧ okd ((x + 4294967296 - y - c).tmod B32) ∧ 0 ≤ w64 (1 - w64 ((x + 4294967296 - y - c).tdiv B32)) ∧
    w64 (1 - w64 ((x + 4294967296 - y - c).tdiv B32)) ≤ 1 ∧ x + 4294967296 - y - c = (x + 4294967296 - y - c).tmod B32 + 4294967296 * (1 - w64 (1 - w64 ((x + 4294967296 - y - c).tdiv B32))) := by
  obtain ⟨h1, h2⟩ := hx
  obtain ⟨h3, h4⟩ := hy
  have hB : B32 = 4294967296 := rfl
  rw [wu, wu, wu, wu, wu, tm32 (by omega), td32 (by omega), hB]
  unfold okd
  omega

theorem minus_val {a b : W5} (ha : a.ok) (hb : b.ok) (hs : b.val ≤ a.val) : (minusW a b).ok ∧ (minusW a b).val = a.val - b.val := by
  obtain ⟨e0, k0, l0, u0, s0⟩ := borrow ha.h0 hb.h0 (c := 0) (by omega)
  obtain ⟨e1, k1, l1, u1, s1⟩ := borrow ha.h1 hb.h1 ⟨l0, u0⟩
  obtain ⟨e2, k2, l2, u2, s2⟩ := borrow ha.h2 hb.h2 ⟨l1, u1⟩
  obtain ⟨e3, k3, l3, u3, s3⟩ := borrow ha.h3 hb.h3 ⟨l2, u2⟩
  obtain ⟨e4, k4, l4, u4, s4⟩ := borrow ha.h4 hb.h4 ⟨l3, u3⟩
  refine ⟨⟨?_, ?_, ?_, ?_, ?_⟩, ?_⟩
  · simp only [minusW, e0]; exact k0
  · simp only [minusW, e0, e1]; exact k1
  · simp only [minusW, e0, e1, e2]; exact k2
  · simp only [minusW, e0, e1, e2, e3]; exact k3
  · simp only [minusW, e0, e1, e2, e3, e4]; exact k4
  · simp only [minusW, W5.val, e0, e1, e2, e3, e4] at *
    generalize w64 (1 - w64 ((a.d0 + 4294967296 - b.d0 - 0).tdiv B32)) = c0 at *
    generalize w64 (1 - w64 ((a.d1 + 4294967296 - b.d1 - c0).tdiv B32)) = c1 at *
    generalize w64 (1 - w64 ((a.d2 + 4294967296 - b.d2 - c1).tdiv B32)) = c2 at *
    generalize w64 (1 - w64 ((a.d3 + 4294967296 - b.d3 - c2).tdiv B32)) = c3 at *
    generalize w64 (1 - w64 ((a.d4 + 4294967296 - b.d4 - c3).tdiv B32)) = c4 at *
    generalize (a.d0 + 4294967296 - b.d0 - 0).tmod B32 = m0 at *
    generalize (a.d1 + 4294967296 - b.d1 - c0).tmod B32 = m1 at *
    generalize (a.d2 + 4294967296 - b.d2 - c1).tmod B32 = m2 at *
    generalize (a.d3 + 4294967296 - b.d3 - c2).tmod B32 = m3 at *
    generalize (a.d4 + 4294967296 - b.d4 - c3).tmod B32 = m4 at *
    unfold okd at *
    omega

theorem less_val {a b : W5} (ha : a.ok) (hb : b.ok) : lessW a b = decide (a.val < b.val) := by
  obtain ⟨⟨a0, a0'⟩, ⟨a1, a1'⟩, ⟨a2, a2'⟩, ⟨a3, a3'⟩, ⟨a4, a4'⟩⟩ := ha
  obtain ⟨⟨b0, b0'⟩, ⟨b1, b1'⟩, ⟨b2, b2'⟩, ⟨b3, b3'⟩, ⟨b4, b4'⟩⟩ := hb
  unfold lessW W5.val
  simp only [Bool.cond_eq_ite, bne_iff_ne, ne_eq]
  (repeat' split) <;> first | (rw [decide_eq_decide]; omega) | (symm; rw [decide_eq_false_iff_not]; omega)

theorem val_nonneg {w : W5} (h : w.ok) : 0 ≤ w.val := by
  obtain ⟨⟨a0, a0'⟩, ⟨a1, a1'⟩, ⟨a2, a2'⟩, ⟨a3, a3'⟩, ⟨a4, a4'⟩⟩ := h
  unfold W5.val
  omega

theorem ok_abs {w : W5} (h : w.ok) : w.abs.ok := ⟨h.h0, h.h1, h.h2, h.h3, h.h4⟩
theorem ok_with {w : W5} (h : w.ok) (b : Bool) : (w.with b).ok := ⟨h.h0, h.h1, h.h2, h.h3, h.h4⟩
theorem val_abs (w : W5) : w.abs.val = w.val := rfl
theorem val_with (w : W5) (b : Bool) : (w.with b).val = w.val := rfl

theorem sum_sg {a b : W5} (ha : a.ok) (hb : b.ok) (hs : a.val + b.val < 1461501637330902918203684832716283019655932542976) : (sumW a b).ok ∧ (sumW a b).sg = a.sg + b.sg := by
  have pa := val_nonneg ha
  have pb := val_nonneg hb
  unfold sumW
  cases hab : a.b == b.b with
  | true =>
    rw [beq_iff_eq] at hab
    obtain ⟨h1, h2, h3⟩ := plus_val (ok_abs ha) (ok_abs hb) hs
    refine ⟨ok_with h1 _, ?_⟩
    simp only [cond_true, W5.sg, val_with, h2, val_abs]
    show (bif a.b then _ else _) = _
    rw [← hab]
    cases a.b <;> simp only [cond_true, cond_false] <;> omega
  | false =>
    simp only [cond_false]
    rw [less_val (ok_abs ha) (ok_abs hb), val_abs, val_abs]
    have hne : a.b = !b.b := by
      revert hab
      cases a.b <;> cases b.b <;> simp
    by_cases hl : a.val < b.val
    · rw [decide_eq_true hl]
      obtain ⟨h1, h2⟩ := minus_val (ok_abs hb) (ok_abs ha) (by rw [val_abs, val_abs]; omega)
      refine ⟨ok_with h1 _, ?_⟩
      simp only [cond_true, W5.sg, val_with, h2, val_abs]
      show (bif b.b then _ else _) = _
      rw [hne]
      cases b.b <;> simp only [cond_true, cond_false, Bool.not_true, Bool.not_false] <;> omega
    · rw [decide_eq_false hl]
      obtain ⟨h1, h2⟩ := minus_val (ok_abs ha) (ok_abs hb) (by rw [val_abs, val_abs]; omega)
      refine ⟨ok_with h1 _, ?_⟩
      simp only [cond_false, W5.sg, val_with, h2, val_abs]
      show (bif a.b then _ else _) = _
      rw [hne]
      cases b.b <;> simp only [cond_true, cond_false, Bool.not_true, Bool.not_false] <;> omega

theorem turn_sg (a : W5) : (turnW a).sg = - a.sg := by
  unfold turnW W5.sg
  rw [val_with]
  show (bif (!a.b) then _ else _) = _
  cases a.b <;> simp

def okI (n : Int) : Prop := -9223372036854775808 ≤ n ∧ n ≤ 9223372036854775807

theorem of_sg {n : Int} (h : okI n) : (ofN n).ok ∧ (ofN n).sg = n ∧ (ofN n).val = (if n < 0 then -n else n) ∧ (ofN n).b = decide (n < 0) ∧ (ofN n).d2 = 0 ∧ (ofN n).d3 = 0 ∧ (ofN n).d4 = 0 := by
  unfold okI at h
  by_cases hn : n < 0
  · have e : ofN n = ofU true (-n) := by
      unfold ofN
      rw [decide_eq_true hn]
      simp only [cond_true]
      congr 1
      rw [wu, wu]; omega
    rw [e]
    simp only [ofU, W5.sg, W5.val, cond_true]
    rw [tm32 (by omega), td32 (by omega), wu]
    refine ⟨⟨?_, ?_, ?_, ?_, ?_⟩, ?_, ?_, (decide_eq_true hn).symm, by trivial, by trivial, by trivial⟩
    all_goals first | (dsimp only [okd]; omega) | (rw [if_pos hn]; omega) | omega
  · have e : ofN n = ofU false n := by
      unfold ofN
      rw [decide_eq_false hn]
      simp only [cond_false]
      congr 1
      rw [wu]; omega
    rw [e]
    simp only [ofU, W5.sg, W5.val, cond_false]
    rw [tm32 (by omega), td32 (by omega), wu]
    refine ⟨⟨?_, ?_, ?_, ?_, ?_⟩, ?_, ?_, (decide_eq_false hn).symm, by trivial, by trivial, by trivial⟩
    all_goals first | (dsimp only [okd]; omega) | (rw [if_neg hn]; omega) | omega

/-- a number that there is, or none -/
def nar (z : Int) : Int × Int := if -9223372036854775808 ≤ z ∧ z ≤ 9223372036854775807 then (z, 0) else (0, 6)
def prD (p : Int × Int) : D Pl := .tup [dI p.1, dI p.2]

def uW (a : W5) : Int := w64 (w64 (a.d1 * B32) + a.d0)
theorem narrow_eq {a : W5} (h : a.ok) : (bif (bif (bif a.d2 != 0 then true else a.d3 != 0) then true else a.d4 != 0) then no6 else bif a.b then (bif decide (uW a > 9223372036854775808) then no6 else yes0 (i64 (w64 (0 - uW a))))
    else (bif decide (uW a > 9223372036854775807) then no6 else yes0 (i64 (uW a)))) = some (prD (nar a.sg)) := by
  have pv := val_nonneg h
  obtain ⟨⟨a0, a0'⟩, ⟨a1, a1'⟩, ⟨a2, a2'⟩, ⟨a3, a3'⟩, ⟨a4, a4'⟩⟩ := h
  have hno : ∀ z : Int, (z < -9223372036854775808 ∨ z > 9223372036854775807) → some (prD (nar z)) = no6 := by
    intro z hz
    unfold nar
    rw [if_neg (by omega)]; rfl
  have hyes : ∀ z y : Int, okI z → y = z → some (prD (nar z)) = yes0 y := by
    intro z y hz hy
    subst hy
    unfold okI at hz
    unfold nar
    rw [if_pos hz]; rfl
  unfold okI at hyes
  have hu : a.d2 = 0 → a.d3 = 0 → a.d4 = 0 → uW a = a.d0 + 4294967296 * a.d1 := by
    intro _ _ _
    unfold uW
    rw [wu, wu, show B32 = 4294967296 from rfl]; omega
  have hbig : (a.d2 ≠ 0 ∨ a.d3 ≠ 0 ∨ a.d4 ≠ 0) → no6 = some (prD (nar a.sg)) := by
    intro hne
    refine (hno _ ?_).symm
    unfold W5.sg
    unfold W5.val at pv ⊢
    cases a.b <;> simp only [cond_true, cond_false] <;> omega
  by_cases h2 : a.d2 = 0
  · by_cases h3 : a.d3 = 0
    · by_cases h4 : a.d4 = 0
      · have hv : a.val = a.d0 + 4294967296 * a.d1 := by unfold W5.val; omega
        rw [show (a.d2 != 0) = false by simp [h2], show (a.d3 != 0) = false by simp [h3], show (a.d4 != 0) = false by simp [h4], hu h2 h3 h4]
        simp only [cond_false]
        unfold W5.sg
        rw [hv]
        cases a.b with
        | true =>
          simp only [cond_true]
          by_cases hg : a.d0 + 4294967296 * a.d1 > 9223372036854775808
          · rw [decide_eq_true hg, hno _ (by omega)]; rfl
          · rw [decide_eq_false hg, hyes _ (i64 (w64 (0 - (a.d0 + 4294967296 * a.d1)))) (by omega) (by rw [wi, wu]; omega)]; rfl
        | false =>
          simp only [cond_false]
          by_cases hg : a.d0 + 4294967296 * a.d1 > 9223372036854775807
          · rw [decide_eq_true hg, hno _ (by omega)]; rfl
          · rw [decide_eq_false hg, hyes _ (i64 (a.d0 + 4294967296 * a.d1)) (by omega) (by rw [wi]; omega)]; rfl
      · rw [← hbig (.inr (.inr h4)), show (a.d2 != 0) = false by simp [h2], show (a.d3 != 0) = false by simp [h3], show (a.d4 != 0) = true by simp [h4]]; rfl
    · rw [← hbig (.inr (.inl h3)), show (a.d2 != 0) = false by simp [h2], show (a.d3 != 0) = true by simp [h3]]; rfl
  · rw [← hbig (.inl h2), show (a.d2 != 0) = true by simp [h2]]; rfl

end Go.Proofs.YtondgbiamadehaaDoor
