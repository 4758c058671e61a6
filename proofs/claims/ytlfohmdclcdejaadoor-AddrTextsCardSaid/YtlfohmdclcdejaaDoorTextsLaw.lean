/-
  TEXTS OF NUMBERS, IN PLAIN LEAN: the program reads and prints as the document does.
-/
import Derived.Test.YtlfohmdclcdejaaDoorRefParse
import Derived.Lib.ParseIntBTie
namespace Go.Proofs.YtlfohmdclcdejaaDoor.Nu
open Go.Eng

set_option maxRecDepth 100000

def isD (c : UInt8) : Prop := 48 ≤ c.toNat ∧ c.toNat ≤ 57
def dv (c : UInt8) : Nat := c.toNat - 48
def vf : Nat → Str → Nat
  | a, [] => a
  | a, c :: r => vf (a * 10 + dv c) r

theorem vf_append : ∀ (l m : Str) (a : Nat), vf a (l ++ m) = vf (vf a l) m
  | [], _, _ => rfl
  | c :: l, m, a => vf_append l m (a * 10 + dv c)
theorem vf_ge : ∀ (l : Str) (a : Nat), a ≤ vf a l
  | [], _ => Nat.le_refl _
  | c :: l, a => Nat.le_trans (show a ≤ a * 10 + dv c by omega) (vf_ge l _)
theorem vf_pow : ∀ (l : Str) (a : Nat), a * 10 ^ l.length ≤ vf a l
  | [], a => by
    show a * 10 ^ 0 ≤ a
    rw [Nat.pow_zero, Nat.mul_one]; exact Nat.le_refl _
  | c :: l, a => by
    have h := vf_pow l (a * 10 + dv c)
    show a * 10 ^ (l.length + 1) ≤ vf (a * 10 + dv c) l
    generalize vf (a * 10 + dv c) l = V at h ⊢
    rw [Nat.pow_succ, Nat.mul_comm (10 ^ l.length) 10, ← Nat.mul_assoc]
    exact Nat.le_trans (Nat.mul_le_mul_right _ (by omega)) h

theorem bad_false {c : UInt8} : badD (Int.ofNat c.toNat) = false ↔ isD c := by
  unfold badD isD
  by_cases h : c.toNat < 48
  · rw [decide_eq_true (show Int.ofNat c.toNat < 48 by rw [Int.ofNat_eq_natCast]; omega)]
    simp only [cond_true, Bool.true_eq_false, false_iff]; omega
  · rw [decide_eq_false (show ¬ Int.ofNat c.toNat < 48 by rw [Int.ofNat_eq_natCast]; omega)]
    simp only [cond_false, decide_eq_false_iff_not, Int.ofNat_eq_natCast]; omega

theorem byt_get {d : Str} {i : Nat} (h : i < d.length) : byt d i = Int.ofNat d[i].toNat := by
  unfold byt
  rw [List.getD_eq_getElem?_getD, List.getElem?_eq_getElem h]; rfl

theorem digB_iff {d : Str} : digB d = true ↔ ∀ c ∈ d, isD c := by
  unfold digB allB
  simp only [List.all_eq_true, List.mem_range, Bool.not_eq_true']
  constructor
  · intro h c hc
    obtain ⟨i, hi, rfl⟩ := List.mem_iff_getElem.1 hc
    have := h i hi
    rw [byt_get hi] at this
    exact bad_false.1 this
  · intro h i hi
    rw [byt_get hi]
    exact bad_false.2 (h _ (List.getElem_mem _))

def bodyS (s : Str) : Str := bif neg0 s then t1 s else s

theorem whole_eq (s : Str) : wholeV s = bif zl (neg0 s) (bodyS s) then false else digB (bodyS s) := by
  cases s with
  | nil => rfl
  | cons c r =>
    have ht : t1 (c :: r) = r := t1_eq _
    have hn : neg0 (c :: r) = (byt (c :: r) 0 == 45) := by
      unfold neg0
      rw [decide_eq_true (show ((c :: r).length : Int) > 0 by simp only [List.length_cons]; omega)]; rfl
    unfold wholeV bodyS negW
    rw [ht, hn]
    cases h : (byt (c :: r) 0 == 45) with
    | false =>
      have : (bif decide (((c :: r).length : Int) > 1) then false else false) = false := by cases decide (((c :: r).length : Int) > 1) <;> rfl
      rw [this]; rfl
    | true =>
      have hc : c = 45 := by
        have h1 : byt (c :: r) 0 = 45 := by simpa using h
        have h2 : byt (c :: r) 0 = Int.ofNat c.toNat := rfl
        rw [h2, Int.ofNat_eq_natCast] at h1
        exact UInt8.toNat_inj.1 (show c.toNat = 45 by omega)
      subst hc
      cases r with
      | nil => decide
      | cons c' r' =>
        rw [decide_eq_true (show ((45 :: c' :: r' : Str).length : Int) > 1 by simp only [List.length_cons]; omega)]
        simp only [cond_true]
        unfold zeroL zl
        rw [show ((c' :: r' : Str) == []) = false from rfl]
        cases byt (c' :: r') 0 == 48 <;> rfl

def numE (M V : Nat) : Lib.NumEnd Nat := if V ≤ M then .ok V else .range
theorem numE_t {M V : Nat} (h : V ≤ M) : numE M V = .ok V := if_pos h
theorem numE_f {M V : Nat} (h : ¬ V ≤ M) : numE M V = .range := if_neg h

theorem parseM_eq {M : Nat} (hM : M = 18446744073709551615) : ∀ (l : Str) (a : Nat), (∀ c ∈ l, isD c) → a ≤ M → Lib.parseUintM M a l = numE M (vf a l)
  | [], a, _, ha => (numE_t ha).symm
  | c :: r, a, hl, ha => by
    have hc : isD c := hl c (by simp)
    have hg := vf_ge r (a * 10 + dv c)
    rw [Lib.parseUintM, if_pos (show 48 ≤ c.toNat ∧ c.toNat ≤ 57 from hc)]
    show _ = numE M (vf (a * 10 + dv c) r)
    by_cases h1 : 1844674407370955162 ≤ a
    · rw [if_pos h1, numE_f (by omega)]
    · rw [if_neg h1]
      by_cases h2 : M < a * 10 + dv c
      · rw [if_pos (show M < a * 10 + (c.toNat - 48) from h2), numE_f (by omega)]
      · rw [if_neg (show ¬ M < a * 10 + (c.toNat - 48) from h2)]
        exact parseM_eq hM r (a * 10 + dv c) (fun c hc => hl c (by simp [hc])) (by omega)

theorem zl_false {b : Bool} {d : Str} (h : zl b d = false) : ∃ c r, d = c :: r ∧ (c.toNat = 48 → b = false ∧ r = []) := by
  cases d with
  | nil => cases h
  | cons c r =>
    refine ⟨c, r, rfl, fun hc => ?_⟩
    unfold zl at h
    rw [show ((c :: r : Str) == []) = false from rfl, show byt (c :: r) 0 = Int.ofNat c.toNat from rfl, hc, show ((Int.ofNat 48 : Int) == 48) = true from rfl] at h
    simp only [cond_true, cond_false] at h
    cases b with
    | true => cases h
    | false =>
      refine ⟨rfl, ?_⟩
      cases r with
      | nil => rfl
      | cons x y =>
        rw [cond_false, decide_eq_true (show ((c :: x :: y : Str).length : Int) > 1 by simp only [List.length_cons]; omega)] at h
        cases h

theorem neg_shape (s : Str) : (neg0 s = true ∧ s = 45 :: bodyS s) ∨ (neg0 s = false ∧ bodyS s = s ∧ ∀ c r, s = c :: r → c.toNat ≠ 45) := by
  cases hn : neg0 s with
  | true =>
    left
    refine ⟨rfl, ?_⟩
    unfold bodyS
    rw [hn, cond_true, t1_eq]
    cases s with
    | nil => cases hn
    | cons c r =>
      unfold neg0 at hn
      rw [decide_eq_true (show ((c :: r).length : Int) > 0 by simp only [List.length_cons]; omega), cond_true, show byt (c :: r) 0 = Int.ofNat c.toNat from rfl] at hn
      have h1 : Int.ofNat c.toNat = 45 := by simpa using hn
      rw [Int.ofNat_eq_natCast] at h1
      have : c = 45 := UInt8.toNat_inj.1 (show c.toNat = 45 by omega)
      rw [this]; rfl
  | false =>
    right
    refine ⟨rfl, by unfold bodyS; rw [hn]; rfl, fun c r hs h45 => ?_⟩
    subst hs
    unfold neg0 at hn
    rw [decide_eq_true (show ((c :: r).length : Int) > 0 by simp only [List.length_cons]; omega), cond_true, show byt (c :: r) 0 = Int.ofNat c.toNat from rfl, h45] at hn
    cases hn

theorem finV_neg (V : Nat) : finV true V = if V ≤ 9223372036854775808 then (-(V : Int), 0) else (0, 6) := by
  unfold finV
  simp only [cond_true]
  by_cases h : V ≤ 9223372036854775808
  · rw [if_pos h, decide_eq_true (show (V : Int) ≤ 9223372036854775808 by omega), cond_true, show i64 (w64 (0 - (V : Int))) = -(V : Int) by rw [wi, wu]; omega]
  · rw [if_neg h, decide_eq_false (show ¬ (V : Int) ≤ 9223372036854775808 by omega), cond_false]
theorem finV_pos (V : Nat) : finV false V = if V ≤ 9223372036854775807 then ((V : Int), 0) else (0, 6) := by
  unfold finV
  simp only [cond_false]
  by_cases h : V ≤ 9223372036854775807
  · rw [if_pos h, decide_eq_false (show ¬ (V : Int) > 9223372036854775807 by omega), cond_false, show i64 (V : Int) = (V : Int) by rw [wi]; omega]
  · rw [if_neg h, decide_eq_true (show (V : Int) > 9223372036854775807 by omega), cond_true]

theorem parse_val {s : Str} (h1 : zl (neg0 s) (bodyS s) = false) (h2 : digB (bodyS s) = true) : parseV s = finV (neg0 s) (vf 0 (bodyS s)) := by
  have hw : wholeV s = true := by rw [whole_eq, h1, h2]; rfl
  obtain ⟨c, r, hd, _⟩ := zl_false h1
  have hdig := digB_iff.1 h2
  have hU : Lib.parseUintB 64 (bodyS s) = numE 18446744073709551615 (vf 0 (bodyS s)) := by
    unfold Lib.parseUintB
    rw [if_neg (by rw [hd]; simp)]
    exact parseM_eq rfl _ _ hdig (by decide)
  unfold parseV
  rw [hw, cond_true]
  generalize vf 0 (bodyS s) = V at hU ⊢
  rcases neg_shape s with ⟨hn, hs⟩ | ⟨hn, hs, h45⟩
  · have hp : Lib.parseIntB 64 s = if V ≤ 9223372036854775808 then .ok (-(V : Int)) else .range := by
      rw [hs, Lib.parseIntB_minus, hU]
      by_cases h : V ≤ 9223372036854775808
      · rw [if_pos h, numE_t (by omega)]; simp only [Lib.signedC]; rw [if_neg (by omega)]
      · rw [if_neg h]
        by_cases h' : V ≤ 18446744073709551615
        · rw [numE_t h']; simp only [Lib.signedC]; rw [if_pos (by omega)]
        · rw [numE_f h']; rfl
    rw [hn, finV_neg]
    unfold pOk pVal
    rw [hp]
    by_cases h : V ≤ 9223372036854775808
    · simp only [if_pos h, cond_true]
    · simp only [if_neg h, cond_false]
  · have hc : isD c := hdig c (by rw [hd]; simp)
    have hp : Lib.parseIntB 64 s = if V ≤ 9223372036854775807 then .ok (V : Int) else .range := by
      rw [hs] at hU hd
      rw [hd, Lib.parseIntB_plain _ _ _ (by unfold isD at hc; omega) (by unfold isD at hc; omega), ← hd, hU]
      by_cases h : V ≤ 9223372036854775807
      · rw [if_pos h, numE_t (by omega)]; simp only [Lib.signlessC]; rw [if_neg (by omega)]
      · rw [if_neg h]
        by_cases h' : V ≤ 18446744073709551615
        · rw [numE_t h']; simp only [Lib.signlessC]; rw [if_pos (by omega)]
        · rw [numE_f h']; rfl
    rw [hn, finV_pos]
    unfold pOk pVal
    rw [hp]
    by_cases h : V ≤ 9223372036854775807
    · simp only [if_pos h, cond_true]
    · simp only [if_neg h, cond_false]

theorem parse_no_form {s : Str} (h : zl (neg0 s) (bodyS s) = true ∨ digB (bodyS s) = false) : parseV s = (0, 4) := by
  have hw : wholeV s = false := by
    rw [whole_eq]
    rcases h with h | h
    · rw [h]; rfl
    · rw [h]; cases zl (neg0 s) (bodyS s) <;> rfl
  unfold parseV
  rw [hw]; rfl

-- the document's

theorem cv_eq {d : Str} (hd : ∀ c ∈ d, isD c) {i : Nat} (hi : i < d.length) : cv d i = (dv d[i] : Int) := by
  have h := hd d[i] (List.getElem_mem _)
  unfold isD at h
  unfold cv dv
  rw [byt_get hi, Int.ofNat_eq_natCast, wu, show IntKind.u8.wrap ((d[i].toNat : Int) - 48) = ((d[i].toNat : Int) - 48) % 256 by simp [IntKind.wrap, IntKind.bits, IntKind.signed]]
  omega

theorem take_succ' {d : Str} {i : Nat} (hi : i < d.length) : vf 0 (d.take (i + 1)) = vf 0 (d.take i) * 10 + dv d[i] := by
  rw [List.take_add_one, List.getElem?_eq_getElem hi, vf_append]
  rfl

theorem u_eq {d : Str} (hd : ∀ c ∈ d, isD c) : ∀ i, i ≤ d.length → (∀ j, j < i → vf 0 (d.take j) ≤ 922337203685477580) → uAt d i = (vf 0 (d.take i) : Int)
  | 0, _, _ => rfl
  | i + 1, hi, h => by
    have h1 := h i (by omega)
    have hc := hd d[i] (List.getElem_mem (by omega))
    rw [take_succ' (by omega)]
    simp only [uAt]
    rw [u_eq hd i (by omega) (fun j hj => h j (by omega)), cv_eq hd (by omega), wu, wu]
    unfold isD at hc
    have : dv d[i] ≤ 9 := by unfold dv; omega
    omega

theorem too_great {d : Str} (hd : ∀ c ∈ d, isD c) {b : Bool} (hz : zl b d = false) (hf : fitU d = false) : 9223372036854775810 ≤ vf 0 d := by
  by_cases hl : d.length > 19
  · obtain ⟨c, r, rfl, h0⟩ := zl_false hz
    have hc := hd c (by simp)
    unfold isD at hc
    have h1 : 1 ≤ dv c := by
      unfold dv
      by_cases h48 : c.toNat = 48
      · obtain ⟨_, rfl⟩ := h0 h48
        simp at hl
      · omega
    have h2 := vf_pow r (0 * 10 + dv c)
    have h3 : 10 ^ 19 ≤ 10 ^ r.length := Nat.pow_le_pow_right (by decide) (by simp only [List.length_cons] at hl; omega)
    have h4 : 1 * 10 ^ r.length ≤ (0 * 10 + dv c) * 10 ^ r.length := Nat.mul_le_mul_right _ (by omega)
    show 9223372036854775810 ≤ vf (0 * 10 + dv c) r
    have h5 : (10 : Nat) ^ 19 = 10000000000000000000 := by decide
    omega
  · have : ∃ j, j < d.length ∧ 922337203685477580 < vf 0 (d.take j) := by
      refine Classical.byContradiction fun hno => ?_
      have hall : ∀ j, j < d.length → vf 0 (d.take j) ≤ 922337203685477580 := fun j hj => Classical.byContradiction fun h => hno ⟨j, hj, by omega⟩
      have : fitU d = true := by
        unfold fitU
        simp only [List.all_eq_true, List.mem_range, Bool.not_eq_true']
        intro i hi
        unfold tooU
        rw [decide_eq_false (show ¬ (d.length : Int) > 19 by omega), cond_false, u_eq hd i (by omega) (fun j hj => hall j (by omega))]
        have := hall i hi
        exact decide_eq_false (by omega)
      rw [this] at hf; cases hf
    obtain ⟨j, hj, h⟩ := this
    have h1 : vf 0 d = vf (vf 0 (d.take (j + 1))) (d.drop (j + 1)) := by rw [← vf_append, List.take_append_drop]
    have h2 := vf_ge (d.drop (j + 1)) (vf 0 (d.take (j + 1)))
    rw [take_succ' hj] at h1 h2
    omega

theorem fits {d : Str} (hd : ∀ c ∈ d, isD c) (hf : fitU d = true) : uAt d d.length = (vf 0 d : Int) := by
  unfold fitU at hf
  simp only [List.all_eq_true, List.mem_range, Bool.not_eq_true'] at hf
  have key : ∀ i, i ≤ d.length → (∀ j, j < i → vf 0 (d.take j) ≤ 922337203685477580) := by
    intro i
    induction i with
    | zero => intro _ j hj; omega
    | succ i ih =>
      intro hi j hj
      by_cases h : j < i
      · exact ih (by omega) j h
      · obtain rfl : j = i := by omega
        have h1 := hf j (by omega)
        have h2 := u_eq hd j (by omega) (ih (by omega))
        unfold tooU at h1
        rw [h2] at h1
        cases hb : decide ((d.length : Int) > 19) with
        | true => rw [hb] at h1; cases h1
        | false =>
          rw [hb, cond_false] at h1
          have := of_decide_eq_false h1
          omega
  have := u_eq hd d.length (Nat.le_refl _) (key _ (Nat.le_refl _))
  rwa [List.take_length] at this

theorem parse_eq (s : Str) : parseV s = refParseV s := by
  show parseV s = restV (neg0 s) (bodyS s)
  unfold restV
  cases h1 : zl (neg0 s) (bodyS s) with
  | true => rw [parse_no_form (.inl h1)]; rfl
  | false =>
    cases h2 : digB (bodyS s) with
    | false => rw [parse_no_form (.inr h2)]; rfl
    | true =>
      rw [parse_val h1 h2]
      have hd := digB_iff.1 h2
      cases h3 : fitU (bodyS s) with
      | true => rw [fits hd h3]; rfl
      | false =>
        have := too_great hd h1 h3
        simp only [cond_true, cond_false]
        cases neg0 s with
        | true => rw [finV_neg, if_neg (by omega)]
        | false => rw [finV_pos, if_neg (by omega)]

-- what is printed is read again

theorem dec_ok (u : Nat) : (∀ c ∈ Lib.decDigits u, isD c) ∧ vf 0 (Lib.decDigits u) = u ∧ (∃ c r, Lib.decDigits u = c :: r ∧ (c.toNat = 48 → u = 0 ∧ r = [])) := by
  induction u using Nat.strongRecOn with
  | _ u ih =>
    have h8 : ∀ k, k < 10 → (UInt8.ofNat (48 + k)).toNat = 48 + k := fun k hk => by
      rw [UInt8.toNat_ofNat']; omega
    by_cases h : u < 10
    · rw [Lib.decDigits_one h]
      have := h8 u h
      refine ⟨fun c hc => ?_, ?_, _, [], rfl, fun hc => ⟨by omega, rfl⟩⟩
      · simp only [List.mem_singleton] at hc
        subst hc
        unfold isD; omega
      · show 0 * 10 + ((UInt8.ofNat (48 + u)).toNat - 48) = u
        omega
    · obtain ⟨h1, h2, c, r, h3, h4⟩ := ih (u / 10) (by omega)
      have hk := h8 (u % 10) (by omega)
      rw [Lib.decDigits, dif_neg h]
      refine ⟨fun c hc => ?_, ?_, c, r ++ [UInt8.ofNat (48 + u % 10)], by rw [h3]; rfl, fun hc => ?_⟩
      · rcases List.mem_append.1 hc with hc | hc
        · exact h1 c hc
        · simp only [List.mem_singleton] at hc
          subst hc
          unfold isD; omega
      · rw [vf_append, h2]
        show u / 10 * 10 + ((UInt8.ofNat (48 + u % 10)).toNat - 48) = u
        omega
      · have := (h4 hc).1
        omega

theorem back {n : Int} (h0 : -9223372036854775808 ≤ n) (h1 : n ≤ 9223372036854775807) : parseV (Lib.itoa n) = (n, 0) := by
  by_cases hn : n < 0
  · obtain ⟨u, hu, rfl⟩ : ∃ u : Nat, 1 ≤ u ∧ n = -(u : Int) := ⟨n.natAbs, by omega, by omega⟩
    obtain ⟨d1, d2, c, r, d3, d4⟩ := dec_ok u
    rw [Lib.itoa_neg u hu]
    have hneg : neg0 (45 :: Lib.decDigits u) = true := by
      unfold neg0
      rw [decide_eq_true (show ((45 :: Lib.decDigits u : Str).length : Int) > 0 by simp only [List.length_cons]; omega)]; rfl
    have hb : bodyS (45 :: Lib.decDigits u) = Lib.decDigits u := by
      unfold bodyS
      rw [hneg, cond_true, t1_eq]; rfl
    have hz : zl true (Lib.decDigits u) = false := by
      rw [d3]
      unfold zl
      rw [show ((c :: r : Str) == []) = false from rfl, cond_false, show byt (c :: r) 0 = Int.ofNat c.toNat from rfl]
      have : c.toNat ≠ 48 := fun h => by have := (d4 h).1; omega
      rw [show ((Int.ofNat c.toNat : Int) == 48) = false by rw [Int.ofNat_eq_natCast, beq_eq_false_iff_ne]; omega]; rfl
    rw [parse_val (by rw [hneg, hb, hz]) (by rw [hb]; exact digB_iff.2 d1), hneg, hb, d2, finV_neg, if_pos (by omega)]
  · obtain ⟨u, rfl⟩ : ∃ u : Nat, n = u := ⟨n.toNat, by omega⟩
    obtain ⟨d1, d2, c, r, d3, d4⟩ := dec_ok u
    rw [Lib.itoa_nonneg]
    have hc : isD c := d1 c (by rw [d3]; simp)
    have hneg : neg0 (Lib.decDigits u) = false := by
      rw [d3]
      unfold neg0
      rw [decide_eq_true (show ((c :: r : Str).length : Int) > 0 by simp only [List.length_cons]; omega), cond_true, show byt (c :: r) 0 = Int.ofNat c.toNat from rfl]
      unfold isD at hc
      rw [Int.ofNat_eq_natCast, beq_eq_false_iff_ne]; omega
    have hb : bodyS (Lib.decDigits u) = Lib.decDigits u := by unfold bodyS; rw [hneg]; rfl
    have hz : zl false (Lib.decDigits u) = false := by
      rw [d3]
      unfold zl
      rw [show ((c :: r : Str) == []) = false from rfl, cond_false, show byt (c :: r) 0 = Int.ofNat c.toNat from rfl]
      by_cases h48 : c.toNat = 48
      · obtain ⟨_, rfl⟩ := d4 h48
        rw [h48]; rfl
      · rw [show ((Int.ofNat c.toNat : Int) == 48) = false by rw [Int.ofNat_eq_natCast, beq_eq_false_iff_ne]; omega]; rfl
    rw [parse_val (by rw [hneg, hb, hz]) (by rw [hb]; exact digB_iff.2 d1), hneg, hb, d2, finV_pos, if_pos (by omega)]

end Go.Proofs.YtlfohmdclcdejaaDoor.Nu
