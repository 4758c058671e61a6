/-
  SHORT FORMS OF NUMBERS: the document's Short; GetShort, the program's and the document's.
-/
import Derived.Test.YtgngobcmfflcpaaDoorShort
namespace Go.Proofs.YtgngobcmfflcpaaDoor
open Go.Eng

set_option maxRecDepth 100000

def rbyte (n : Nat) : Bool := UInt8.ofNat (IntKind.u8.wrap (IntKind.u8.wrap ((n : Int).tmod 128) + 128)).toNat == UInt8.ofNat (n % 128 + 128)
theorem rbyte_eq (n : Nat) : UInt8.ofNat (IntKind.u8.wrap (IntKind.u8.wrap ((n : Int).tmod 128) + 128)).toNat = UInt8.ofNat (n % 128 + 128) := by
  rw [Int.tmod_eq_emod_of_nonneg (by omega), wu8, wu8, show (((n : Int) % 128 % 256 + 128) % 256).toNat = n % 128 + 128 by omega]

def sQ0 (n : Int) : St Pl := mkS 20 [(0, .int .u64 n), (3, .nilS)] []
def sQ1 (l : List UInt8) (n : Int) : St Pl := mkS 20 [(0, .int .u64 n), (3, .arr 12)] [(12, .arr false (pBytes l))]
theorem bQ0 (n : Int) : evD tell0 noTL noL 1 (loopAt 27 0) [0, 3] [] (sQ0 n) =
    bif decide (n ≥ 128) then some (.normal, sQ1 [UInt8.ofNat (IntKind.u8.wrap (IntKind.u8.wrap (n.tmod 128) + 128)).toNat] (IntKind.u64.wrap (n.tdiv 128))) else some (.exit 0, sQ0 n) := by kernel_rfl
theorem bQ1 (l : List UInt8) (n : Int) : evD tell0 noTL noL 1 (loopAt 27 0) [0, 3] [] (sQ1 l n) =
    bif decide (n ≥ 128) then ck_ (true && Nat.ble ((l.length + 1) * 1) big) (some (.normal, sQ1 (l ++ [UInt8.ofNat (IntKind.u8.wrap (IntKind.u8.wrap (n.tmod 128) + 128)).toNat]) (IntKind.u64.wrap (n.tdiv 128)))) else some (.exit 0, sQ1 l n) := by kernel_rfl
theorem idsQ : (loopsAt 27).length = 1 ∧ firstId (loopAt 27 0) = 2 ∧ loopsOf (loopAt 27 0) = [] := ⟨by kernel_rfl, by kernel_rfl, by kernel_rfl⟩
theorem div_eq {n : Nat} (h : n < 2 ^ 64) : IntKind.u64.wrap ((n : Int).tdiv 128) = ((n / 128 : Nat) : Int) := by
  rw [Int.tdiv_eq_ediv_of_nonneg (by omega), wu64]; omega
def sQ (f : Bool) (l : List UInt8) (n : Nat) : St Pl := bif f then sQ0 n else sQ1 l n
theorem stepQ (f : Bool) (l : List UInt8) (n : Nat) (hf : f = true → l = []) (h : ¬ n < 128) (hl : l.length + 1 ≤ big) (hn : n < 2 ^ 64) : GoesTo (loopAt 27 0) (sQ f l n) .normal (sQ false (l ++ [UInt8.ofNat (n % 128 + 128)]) (n / 128)) := by
  cases f with
  | true =>
    rw [hf rfl]
    refine goes_ofD (tell0_ok _) (noTL_ok _ _) (noLoops idsQ.2.2) ((bQ0 n).trans ?_)
    rw [decide_eq_true (show (n : Int) ≥ 128 by omega), rbyte_eq, div_eq hn]
    rfl
  | false =>
    refine goes_ofD (tell0_ok _) (noTL_ok _ _) (noLoops idsQ.2.2) ((bQ1 l n).trans ?_)
    rw [decide_eq_true (show (n : Int) ≥ 128 by omega), ck_t (by rw [Bool.true_and]; exact ble_t (by omega)), rbyte_eq, div_eq hn]
    rfl
theorem lastQ (f : Bool) (l : List UInt8) (n : Nat) (h : n < 128) : GoesTo (loopAt 27 0) (sQ f l n) (.exit 0) (sQ f l n) := by
  cases f with
  | true =>
    refine goes_ofD (tell0_ok _) (noTL_ok _ _) (noLoops idsQ.2.2) ((bQ0 n).trans ?_)
    rw [decide_eq_false (show ¬ (n : Int) ≥ 128 by omega)]
    rfl
  | false =>
    refine goes_ofD (tell0_ok _) (noTL_ok _ _) (noLoops idsQ.2.2) ((bQ1 l n).trans ?_)
    rw [decide_eq_false (show ¬ (n : Int) ≥ 128 by omega)]
    rfl
def endQ (a : Bool × List UInt8 × Nat) : Ex × St Pl := (.exit 0, bif (a.1 && decide (a.2.2 < 128)) then sQ0 a.2.2 else sQ1 (a.2.1 ++ shI a.2.2) (shZ a.2.2))
theorem loopQ (n : Nat) (hn : n < 2 ^ 64) : GoesTo (.loop (loopAt 27 0)) (sQ0 n) (endQ (true, [], n)).1 (endQ (true, [], n)).2 := by
  have h9 := shI_len9 hn
  refine loop_byM (Sf := fun a : Bool × List UInt8 × Nat => sQ a.1 a.2.1 a.2.2) (I := fun a => a.2.1.length + (shI a.2.2).length ≤ 10 ∧ a.2.2 < 2 ^ 64 ∧ (a.1 = true → a.2.1 = [])) (m := fun a => a.2.2) (res := endQ) (fun a ha => ?_) (true, [], n) ⟨by simpa using h9, hn, fun _ => rfl⟩
  obtain ⟨f, l, n⟩ := a
  obtain ⟨ha, hn, hf⟩ : l.length + (shI n).length ≤ 10 ∧ n < 2 ^ 64 ∧ (f = true → l = []) := ha
  by_cases h : n < 128
  · refine .inr ⟨by simp [endQ], ?_⟩
    have he : endQ (f, l, n) = (.exit 0, sQ f l n) := by
      unfold endQ
      cases f
      · simp [shI_lt h, shZ_lt h, sQ]
      · simp [h, sQ]
    rw [he]
    exact lastQ f l n h
  · rw [shI_ge h, List.length_cons] at ha
    refine .inl ⟨(false, l ++ [UInt8.ofNat (n % 128 + 128)], n / 128), ⟨by simp; omega, by show n / 128 < 2 ^ 64; omega, fun e => by cases e⟩, by show n / 128 < n; omega, ?_, stepQ f l n hf h (by unfold big; omega) hn⟩
    unfold endQ
    simp only [Bool.false_and, cond_false, decide_eq_false h, Bool.and_false, shI_ge h, shZ_ge h, List.append_assoc]
    rfl
def LSQ (S : St Pl) : Option (Bool × LR Pl) := match seenS 20 [0, 3] S with
  | some ([.int .u64 (.ofNat n), .nilS], []) => some (Nat.blt n 18446744073709551616, .ite (decide (n < 128)) (.leaf (.exit 0) (sQ0 n)) (.leaf (.exit 0) (sQ1 (shI n) (shZ n))))
  | _ => none
theorem LSQ_ok : SOk X0 (loopAt 27 0) LSQ := by
  intro S c r h hc
  unfold LSQ at h
  split at h
  · rename_i n hs
    simp only [Option.some.injEq, Prod.mk.injEq] at h
    obtain ⟨rfl, rfl⟩ := h
    simp only [Nat.blt_eq] at hc
    refine Goes.pre (keepOf [0, 3]) ?_
    rw [seenS_mask hs]
    have h1 := loopQ n hc
    have he : endQ (true, [], n) = pickR (.ite (decide (n < 128)) (.leaf (.exit 0) (sQ0 n)) (.leaf (.exit 0) (sQ1 (shI n) (shZ n)))) := by
      unfold endQ
      simp only [Bool.true_and, pickR, List.nil_append]
      cases decide (n < 128) <;> rfl
    rw [← he]
    exact h1
  · simp at h
theorem eQ (n : Nat) : evF tell0 noTL (atL 2 LSQ noL) 1 Tryd.f27 [.int .u64 (n : Int)] =
    ck_ (Nat.blt n 18446744073709551616) (bif decide (n < 128) then some (.ow [] (.pl (pBytes [UInt8.ofNat (IntKind.u8.wrap (n : Int)).toNat]) .any))
      else ck_ (true && Nat.ble (((shI n).length + 1) * 1) big) (some (.ow [] (.pl (pBytes ((shI n) ++ [UInt8.ofNat (IntKind.u8.wrap (shZ n : Int)).toNat])) .any)))) := by kernel_rfl
theorem refshort_sound (n : Nat) (hn : n < 2 ^ 64) : Snd 27 [.int .u64 (n : Int)] (.ow [] (.pl (pBytes (shL n)) .any)) := by
  refine snd_fn (n := 1) (tell0_ok _) (noTL_ok _ _) (fn := Tryd.f27) (by kernel_rfl) (loops_of (fn := Tryd.f27) (by kernel_rfl) (loops_1 idsQ.1 (atL_ok (fun _ => LSQ_ok) fun h => absurd idsQ.2.1 h))) ((eQ n).trans ?_)
  have h9 := shI_len9 hn
  rw [ck_t (blt_t (by omega)), ck_t (by rw [Bool.true_and]; exact ble_t (by unfold big; omega)), last_byte (shZ_le n)]
  by_cases h : n < 128
  · rw [decide_eq_true h, last_byte h]
    simp only [cond_true, shL, shI_lt h, shZ_lt h, List.nil_append]
  · rw [decide_eq_false h]
    rfl

-- GetShort

def gsL : List UInt8 → Nat → Nat → Option (Nat × Nat × Nat)
  | [], _, _ => none
  | c :: r, i, acc => bif (bif i == 9 then decide (c.toNat > 1) else false) then some (0, 0, 4) else bif decide (c.toNat < 128) then (bif (bif c.toNat == 0 then decide (i > 0) else false) then some (0, 0, 4) else some (acc + c.toNat % 128 * 128 ^ i, i + 1, 0))
      else gsL r (i + 1) (acc + c.toNat % 128 * 128 ^ i)

theorem pow7 (i : Nat) : 128 ^ i = 2 ^ (7 * i) := by rw [Nat.pow_mul]
theorem or_acc {n i x : Nat} (hi : i ≤ 9) (hn : n < 128 ^ i) (hx : x * 128 ^ i < 2 ^ 64) : bitsE .or .u64 (n : Int) ((x * 128 ^ i : Nat) : Int) = ((n + x * 128 ^ i : Nat) : Int) := by
  have hn64 : n < 2 ^ 64 := Nat.lt_of_lt_of_le hn (Nat.le_trans (Nat.pow_le_pow_right (by decide) hi) (by decide))
  rw [pow7] at *
  have h1 := Nat.two_pow_add_eq_or_of_lt hn x
  have hor : n ||| x * 2 ^ (7 * i) = n + x * 2 ^ (7 * i) := by
    rw [Nat.or_comm, Nat.mul_comm x, ← h1, Nat.add_comm]
  have hlt : n + x * 2 ^ (7 * i) < 2 ^ 64 := by
    rw [← hor]
    exact Nat.or_lt_two_pow hn64 hx
  generalize x * 2 ^ (7 * i) = m at *
  unfold bitsE
  simp only
  rw [show IntKind.u64.wrap ((BitVec.ofInt IntKind.u64.bits (n : Int) ||| BitVec.ofInt IntKind.u64.bits (m : Int)).toNat : Int) = IntKind.u64.wrap ((BitVec.ofInt 64 (n : Int) ||| BitVec.ofInt 64 (m : Int)).toNat : Int) from rfl, BitVec.toNat_or, BitVec.toNat_ofInt, BitVec.toNat_ofInt,
    show ((n : Int) % ((2 ^ 64 : Nat) : Int)).toNat = n by omega, show ((m : Int) % ((2 ^ 64 : Nat) : Int)).toNat = m by omega, hor, wu64]
  omega
def andB (c : Nat) : Bool := bitsE .and .u8 (c : Int) 127 == ((c % 128 : Nat) : Int)
theorem andB_all : (List.range 256).all andB = true := by decide +kernel
theorem and_byte (c : UInt8) : bitsE .and .u8 (c.toNat : Int) 127 = ((c.toNat % 128 : Nat) : Int) := by
  have h := List.all_eq_true.1 andB_all c.toNat (by simp [UInt8.toNat_lt c])
  simpa only [andB, beq_iff_eq] using h

def orP (n : Int) (c : UInt8) (i : Int) : Int := bitsE .or .u64 n (IntKind.u64.wrap (IntKind.u64.wrap (bitsE .and .u8 (c.toNat : Int) 127) * 2 ^ min (IntKind.u64.wrap (7 * IntKind.u64.wrap i)).toNat IntKind.u64.bits))
theorem digit_lt {c : UInt8} {i : Nat} (hi : i ≤ 9) (hc : i = 9 → c.toNat ≤ 1) : c.toNat % 128 * 128 ^ i < 2 ^ 64 := by
  by_cases h9 : i = 9
  · have := hc h9
    subst h9
    have : c.toNat % 128 ≤ 1 := by omega
    calc c.toNat % 128 * 128 ^ 9 ≤ 1 * 128 ^ 9 := Nat.mul_le_mul_right _ this
      _ < 2 ^ 64 := by decide
  · calc c.toNat % 128 * 128 ^ i ≤ 127 * 128 ^ i := Nat.mul_le_mul_right _ (by omega)
      _ ≤ 127 * 128 ^ 8 := Nat.mul_le_mul_left _ (Nat.pow_le_pow_right (by decide) (by omega))
      _ < 2 ^ 64 := by decide
theorem orP_eq {n i : Nat} {c : UInt8} (hi : i ≤ 9) (hn : n < 128 ^ i) (hc : i = 9 → c.toNat ≤ 1) : orP (n : Int) c (i : Int) = ((n + c.toNat % 128 * 128 ^ i : Nat) : Int) := by
  have hd := digit_lt hi hc
  unfold orP
  rw [and_byte, wu64, wu64, wu64, wu64, show (7 * ((i : Int) % 18446744073709551616) % 18446744073709551616).toNat = 7 * i by omega, show min (7 * i) IntKind.u64.bits = 7 * i by show min (7 * i) 64 = 7 * i; omega]
  have h2 : ((c.toNat % 128 : Nat) : Int) % 18446744073709551616 * 2 ^ (7 * i) % 18446744073709551616 = ((c.toNat % 128 * 128 ^ i : Nat) : Int) := by
    rw [show ((c.toNat % 128 : Nat) : Int) % 18446744073709551616 = ((c.toNat % 128 : Nat) : Int) by omega, pow7]
    rw [pow7] at hd
    have : ((c.toNat % 128 : Nat) : Int) * 2 ^ (7 * i) = ((c.toNat % 128 * 2 ^ (7 * i) : Nat) : Int) := by push_cast; rfl
    rw [this]
    omega
  rw [h2]
  exact or_acc hi hn hd

def c9 (c : UInt8) (i : Nat) : Bool := bif ((i : Int) == 9) then decide ((c.toNat : Int) > 1) else false
def c0 (c : UInt8) (i : Nat) : Bool := bif ((c.toNat : Int) == 0) then decide ((i : Int) > 0) else false
def sH (l : List UInt8) (n i : Int) : St Pl := mkS 41 [(2, .int .u64 n), (3, dI 0), (4, dI 0), (7, .pl (pBytes l) .any), (8, dI l.length), (9, dI i)] []
def sHr (l : List UInt8) (a u e i : Int) : St Pl := mkS 41 [(2, .int .u64 a), (3, dI u), (4, dI e), (7, .pl (pBytes l) .any), (8, dI l.length), (9, dI i)] []
theorem bH' (l : List UInt8) (n : Int) (i : Nat) : evD tell0 noTL noL 1 (loopAt 47 0) [2, 3, 4, 7, 8, 9] [] (sH l n i) =
    lt_ i l.length (ix_ i l.length (bif c9 (l.getD i 0) i then some (.ret, sHr l 0 0 4 i) else bif decide (((l.getD i 0).toNat : Int) < 128) then (bif c0 (l.getD i 0) i then some (.ret, sHr l 0 0 4 i) else some (.ret, sHr l (orP n (l.getD i 0) i) (IntKind.i64.wrap ((i : Int) + 1)) 0 i))
      else some (.normal, sH l (orP n (l.getD i 0) i) (IntKind.i64.wrap ((i : Int) + 1))))) (some (.exit 0, sH l n i)) := by kernel_rfl
theorem idsH' : (loopsAt 47).length = 1 ∧ firstId (loopAt 47 0) = 2 ∧ loopsOf (loopAt 47 0) = [] := ⟨by kernel_rfl, by kernel_rfl, by kernel_rfl⟩

def rG (m : Nat) (o : Option (Nat × Nat × Nat)) : Ex × St Pl := match o with
  | none => (.exit 0, mkS m [] [])
  | some (a, u, e) => (.ret, mkS m [(2, .int .u64 (a : Int)), (3, dI u), (4, dI e)] [])
theorem c9_eq (c : UInt8) (i : Nat) : c9 c i = bif i == 9 then decide (c.toNat > 1) else false := by
  unfold c9
  by_cases h : i = 9
  · subst h; by_cases h2 : c.toNat > 1 <;> simp [h2] <;> omega
  · rw [show ((i : Int) == 9) = false by rw [beq_eq_false_iff_ne]; omega, show (i == 9) = false by simp [h]]
    rfl
theorem c0_eq (c : UInt8) (i : Nat) : c0 c i = bif c.toNat == 0 then decide (i > 0) else false := by
  unfold c0
  by_cases h : c.toNat = 0
  · rw [h]; by_cases h2 : i > 0 <;> simp [h2]
  · rw [show ((c.toNat : Int) == 0) = false by rw [beq_eq_false_iff_ne]; omega, show (c.toNat == 0) = false by simp [h]]
    rfl
theorem gsL_step {l : List UInt8} {i acc : Nat} (hi : i < l.length) : gsL (l.drop i) i acc = bif c9 (l.getD i 0) i then some (0, 0, 4) else bif decide (((l.getD i 0).toNat : Int) < 128) then (bif c0 (l.getD i 0) i then some (0, 0, 4) else some (acc + (l.getD i 0).toNat % 128 * 128 ^ i, i + 1, 0))
    else gsL (l.drop (i + 1)) (i + 1) (acc + (l.getD i 0).toNat % 128 * 128 ^ i) := by
  rw [List.drop_eq_getElem_cons hi, gsL, c9_eq, c0_eq, List.getD_eq_getElem?_getD, List.getElem?_eq_getElem hi]
  simp only [Option.getD_some]
  rw [show decide (((l[i]).toNat : Int) < 128) = decide ((l[i]).toNat < 128) by by_cases h : (l[i]).toNat < 128 <;> simp [h] <;> omega]
/-- what holds ahead of the i-th byte -/
def okG (l : List UInt8) (a : Nat × Nat) : Prop := a.1 ≤ 9 ∧ a.2 < 128 ^ a.1
theorem okG_next {l : List UInt8} {i acc : Nat} (h : okG l (i, acc)) (h9 : c9 (l.getD i 0) i = false) (h8 : decide (((l.getD i 0).toNat : Int) < 128) = false) : okG l (i + 1, acc + (l.getD i 0).toNat % 128 * 128 ^ i) := by
  obtain ⟨h1, h2⟩ := h
  have hge : ¬ (l.getD i 0).toNat < 128 := by rw [decide_eq_false_iff_not] at h8; omega
  have hne : i ≠ 9 := by
    rintro rfl
    rw [c9_eq] at h9
    simp at h9
    simp at hge
    omega
  refine ⟨by show i + 1 ≤ 9; have : i ≤ 9 := h1; omega, ?_⟩
  show acc + (l.getD i 0).toNat % 128 * 128 ^ i < 128 ^ (i + 1)
  have h2 : acc < 128 ^ i := h2
  have h3 : (l.getD i 0).toNat % 128 * 128 ^ i ≤ 127 * 128 ^ i := Nat.mul_le_mul_right _ (by omega)
  rw [Nat.pow_succ]
  omega
theorem c9_le {c : UInt8} {i : Nat} (h : c9 c i = false) : i = 9 → c.toNat ≤ 1 := by
  rintro rfl
  rw [c9_eq] at h
  simpa using h

theorem loopH (l : List UInt8) (hl : l.length ≤ big) : GoesTo (.loop (loopAt 47 0)) (sH l 0 0) (rG 41 (gsL l 0 0)).1 (rG 41 (gsL l 0 0)).2 := by
  have key := loop_byM (body := loopAt 47 0) (Sf := fun a : Nat × Nat => sH l (a.2 : Nat) (a.1 : Nat)) (I := okG l) (m := fun a => l.length + 1 - a.1) (res := fun a => rG 41 (gsL (l.drop a.1) a.1 a.2)) (fun a ha => ?_) (0, 0) ⟨by decide, by decide⟩
  · exact key
  obtain ⟨i, acc⟩ := a
  have hE := bH' l (acc : Nat) i
  by_cases hi : i < l.length
  · rw [lt_t hi, ix_t hi] at hE
    show (∃ b, okG l b ∧ l.length + 1 - b.1 < l.length + 1 - i ∧ rG 41 (gsL (l.drop i) i acc) = rG 41 (gsL (l.drop b.1) b.1 b.2) ∧ _) ∨ ((rG 41 (gsL (l.drop i) i acc)).1 ≠ .normal ∧ Goes X0 _ _ (rG 41 (gsL (l.drop i) i acc)).1 (rG 41 (gsL (l.drop i) i acc)).2)
    rw [gsL_step hi]
    cases h9 : c9 (l.getD i 0) i with
    | true =>
      rw [h9] at hE
      exact .inr ⟨by simp [rG], (goes_ofD (tell0_ok _) (noTL_ok _ _) (noLoops idsH'.2.2) hE).post (keepOf [2, 3, 4])⟩
    | false =>
      rw [h9, cond_false] at hE
      have hor := orP_eq (c := l.getD i 0) ha.1 ha.2 (c9_le h9)
      rw [hor] at hE
      cases h8 : decide (((l.getD i 0).toNat : Int) < 128) with
      | true =>
        rw [h8, cond_true] at hE
        cases h0 : c0 (l.getD i 0) i with
        | true =>
          rw [h0] at hE
          exact .inr ⟨by simp [rG], (goes_ofD (tell0_ok _) (noTL_ok _ _) (noLoops idsH'.2.2) hE).post (keepOf [2, 3, 4])⟩
        | false =>
          rw [h0, cond_false, wrap_nat (by omega)] at hE
          exact .inr ⟨by simp [rG], (goes_ofD (tell0_ok _) (noTL_ok _ _) (noLoops idsH'.2.2) hE).post (keepOf [2, 3, 4])⟩
      | false =>
        rw [h8, cond_false, wrap_nat (by omega)] at hE
        exact .inl ⟨(i + 1, acc + (l.getD i 0).toNat % 128 * 128 ^ i), okG_next ha h9 h8, by show l.length + 1 - (i + 1) < l.length + 1 - i; omega, rfl, goes_ofD (tell0_ok _) (noTL_ok _ _) (noLoops idsH'.2.2) hE⟩
  · rw [lt_f hi] at hE
    refine .inr ?_
    have he : gsL (l.drop i) i acc = none := by rw [List.drop_of_length_le (by omega)]; rfl
    show (rG 41 (gsL (l.drop i) i acc)).1 ≠ .normal ∧ Goes X0 _ _ (rG 41 (gsL (l.drop i) i acc)).1 (rG 41 (gsL (l.drop i) i acc)).2
    rw [he]
    exact ⟨by simp [rG], (goes_ofD (tell0_ok _) (noTL_ok _ _) (noLoops idsH'.2.2) hE).post (keepOf [])⟩

/-- What is read: the number, how many bytes, what is wrong. -/
def gsO (l : List UInt8) : Nat × Nat × Nat := (gsL l 0 0).getD (0, 0, 2)
def LSH2 (S : St Pl) : Option (Bool × LR Pl) := match seenS 41 [2, 3, 4, 7, 8, 9] S with
  | some ([.int .u64 (.ofNat 0), .int .i64 (.ofNat 0), .int .i64 (.ofNat 0), .pl ⟨.bytes, l⟩ .any, .int .i64 k, .int .i64 (.ofNat 0)], []) =>
    some (k == (l.length : Int) && Nat.ble l.length big, .ite (gsL l 0 0).isNone (.leaf (.exit 0) (mkS 41 [] [])) (.leaf .ret (mkS 41 [(2, .int .u64 ((gsO l).1 : Int)), (3, dI (gsO l).2.1), (4, dI (gsO l).2.2)] [])))
  | _ => none
theorem rG_ite (m : Nat) (l : List UInt8) : rG m (gsL l 0 0) = pickR (.ite (gsL l 0 0).isNone (.leaf (.exit 0) (mkS m [] [])) (.leaf .ret (mkS m [(2, .int .u64 ((gsO l).1 : Int)), (3, dI (gsO l).2.1), (4, dI (gsO l).2.2)] []))) := by
  unfold gsO
  cases gsL l 0 0 <;> rfl
theorem LSH2_ok : SOk X0 (loopAt 47 0) LSH2 := by
  intro S c r h hc
  unfold LSH2 at h
  split at h
  · rename_i l k hs
    simp only [Option.some.injEq, Prod.mk.injEq] at h
    obtain ⟨rfl, rfl⟩ := h
    simp only [Bool.and_eq_true, Nat.ble_eq, beq_iff_eq] at hc
    obtain ⟨rfl, hb⟩ := hc
    refine Goes.pre (keepOf [2, 3, 4, 7, 8, 9]) ?_
    rw [seenS_mask hs]
    have h1 := loopH l hb
    rw [rG_ite] at h1
    exact h1
  · simp at h
theorem eH2 (l : List UInt8) : evF tell0 noTL (atL 2 LSH2 noL) 1 Tryd.f47 [.pl (pBytes l) .any] =
    ck_ (((l.length : Int) == (l.length : Int)) && Nat.ble l.length big) (bif (gsL l 0 0).isNone then some (.tup [.int .u64 0, dI 0, dI 2]) else some (.tup [.int .u64 ((gsO l).1 : Int), dI (gsO l).2.1, dI (gsO l).2.2])) := by kernel_rfl
theorem getshort_sound (l : List UInt8) : Snd 47 [.pl (pBytes l) .any] (.tup [.int .u64 ((gsO l).1 : Int), dI (gsO l).2.1, dI (gsO l).2.2]) := by
  refine SoundAt.rooms fun hroom => snd_fn (n := 1) (tell0_ok _) (noTL_ok _ _) (fn := Tryd.f47) (by kernel_rfl) (loops_of (fn := Tryd.f47) (by kernel_rfl) (loops_1 idsH'.1 (atL_ok (fun _ => LSH2_ok) fun h => absurd idsH'.2.1 h))) ((eH2 l).trans ?_)
  have ha : l.length * 1 ≤ big := hroom (.pl (pBytes l) .any) (by simp)
  rw [ck_t (by rw [beq_self_eq_true, ble_t (by omega)]; rfl)]
  cases h : gsL l 0 0 with
  | none => unfold gsO; rw [h]; rfl
  | some x => rfl

-- the document's

def addR (n u : Int) (c : UInt8) : Int := IntKind.u64.wrap (n + IntKind.u64.wrap (IntKind.u64.wrap ((c.toNat : Int).tmod 128) * u))
def sR (l : List UInt8) (n u i : Int) : St Pl := mkS 49 [(0, .pl (pBytes l) .any), (5, .int .u64 n), (6, .int .u64 u), (7, dI i)] []
def sRr (l : List UInt8) (n u i a b e : Int) : St Pl := mkS 49 [(0, .pl (pBytes l) .any), (2, .int .u64 a), (3, dI b), (4, dI e), (5, .int .u64 n), (6, .int .u64 u), (7, dI i)] []
theorem bR' (l : List UInt8) (n u : Int) (i : Nat) : evD tell0 noTL noL 1 (loopAt 32 0) [0, 2, 3, 4, 5, 6, 7] [] (sR l n u i) =
    bif (bif decide ((i : Int) < (l.length : Int)) then decide ((i : Int) < 10) else false) then ix_ i l.length (bif c9 (l.getD i 0) i then some (.ret, sRr l n u i 0 0 4) else bif decide (((l.getD i 0).toNat : Int) < 128) then
      (bif c0 (l.getD i 0) i then some (.ret, sRr l (addR n u (l.getD i 0)) (IntKind.u64.wrap (u * 128)) i 0 0 4) else some (.ret, sRr l (addR n u (l.getD i 0)) (IntKind.u64.wrap (u * 128)) i (addR n u (l.getD i 0)) (IntKind.i64.wrap ((i : Int) + 1)) 0))
      else some (.normal, sR l (addR n u (l.getD i 0)) (IntKind.u64.wrap (u * 128)) (IntKind.i64.wrap ((i : Int) + 1)))) else some (.exit 0, sR l n u i) := by kernel_rfl
theorem idsR' : (loopsAt 32).length = 1 ∧ firstId (loopAt 32 0) = 3 ∧ loopsOf (loopAt 32 0) = [] := ⟨by kernel_rfl, by kernel_rfl, by kernel_rfl⟩
theorem addR_eq {n i : Nat} {c : UInt8} (hi : i ≤ 9) (hn : n < 128 ^ i) (hc : i = 9 → c.toNat ≤ 1) : addR (n : Int) ((128 ^ i : Nat) : Int) c = ((n + c.toNat % 128 * 128 ^ i : Nat) : Int) := by
  have hd := digit_lt hi hc
  have hsum : n + c.toNat % 128 * 128 ^ i < 2 ^ 64 := by
    by_cases h9 : i = 9
    · subst h9
      have := hc rfl
      have h1 : c.toNat % 128 * 128 ^ 9 ≤ 1 * 128 ^ 9 := Nat.mul_le_mul_right _ (by omega)
      have : (128 : Nat) ^ 9 = 9223372036854775808 := by decide
      omega
    · have h1 : c.toNat % 128 * 128 ^ i ≤ 127 * 128 ^ i := Nat.mul_le_mul_right _ (by omega)
      have h2 : (128 : Nat) ^ i ≤ 128 ^ 8 := Nat.pow_le_pow_right (by decide) (by omega)
      have : (128 : Nat) ^ 8 = 72057594037927936 := by decide
      omega
  unfold addR
  rw [Int.tmod_eq_emod_of_nonneg (by omega), wu64, wu64, wu64]
  have h2 : ((c.toNat : Int) % 128 % 18446744073709551616 * ((128 ^ i : Nat) : Int)) = ((c.toNat % 128 * 128 ^ i : Nat) : Int) := by
    rw [show (c.toNat : Int) % 128 % 18446744073709551616 = ((c.toNat % 128 : Nat) : Int) by omega]
    push_cast
    rfl
  rw [h2]
  omega
theorem unit_eq {i : Nat} (hi : i ≤ 8) : IntKind.u64.wrap (((128 ^ i : Nat) : Int) * 128) = ((128 ^ (i + 1) : Nat) : Int) := by
  have h2 : (128 : Nat) ^ (i + 1) ≤ 128 ^ 9 := Nat.pow_le_pow_right (by decide) (by omega)
  have : (128 : Nat) ^ 9 = 9223372036854775808 := by decide
  rw [Nat.pow_succ] at *
  rw [wu64]
  omega
theorem loopR' (l : List UInt8) (hl : l.length ≤ big) : GoesTo (.loop (loopAt 32 0)) (sR l 0 1 0) (rG 49 (gsL l 0 0)).1 (rG 49 (gsL l 0 0)).2 := by
  have key := loop_byM (body := loopAt 32 0) (Sf := fun a : Nat × Nat => sR l (a.2 : Nat) ((128 ^ a.1 : Nat) : Int) (a.1 : Nat)) (I := okG l) (m := fun a => l.length + 1 - a.1) (res := fun a => rG 49 (gsL (l.drop a.1) a.1 a.2)) (fun a ha => ?_) (0, 0) ⟨by decide, by decide⟩
  · exact key
  obtain ⟨i, acc⟩ := a
  have hE := bR' l (acc : Nat) ((128 ^ i : Nat) : Int) i
  by_cases hi : i < l.length
  · have h10 : i ≤ 9 := ha.1
    rw [decide_eq_true (show (i : Int) < (l.length : Int) by omega), decide_eq_true (show (i : Int) < 10 by omega), cond_true, cond_true, ix_t hi] at hE
    show (∃ b, okG l b ∧ l.length + 1 - b.1 < l.length + 1 - i ∧ rG 49 (gsL (l.drop i) i acc) = rG 49 (gsL (l.drop b.1) b.1 b.2) ∧ _) ∨ ((rG 49 (gsL (l.drop i) i acc)).1 ≠ .normal ∧ Goes X0 _ _ (rG 49 (gsL (l.drop i) i acc)).1 (rG 49 (gsL (l.drop i) i acc)).2)
    rw [gsL_step hi]
    cases h9 : c9 (l.getD i 0) i with
    | true =>
      rw [h9] at hE
      exact .inr ⟨by simp [rG], (goes_ofD (tell0_ok _) (noTL_ok _ _) (noLoops idsR'.2.2) hE).post (keepOf [2, 3, 4])⟩
    | false =>
      rw [h9, cond_false] at hE
      have hor := addR_eq (c := l.getD i 0) ha.1 ha.2 (c9_le h9)
      rw [hor] at hE
      cases h8 : decide (((l.getD i 0).toNat : Int) < 128) with
      | true =>
        rw [h8, cond_true] at hE
        cases h0 : c0 (l.getD i 0) i with
        | true =>
          rw [h0] at hE
          exact .inr ⟨by simp [rG], (goes_ofD (tell0_ok _) (noTL_ok _ _) (noLoops idsR'.2.2) hE).post (keepOf [2, 3, 4])⟩
        | false =>
          rw [h0, cond_false, wrap_nat (by omega)] at hE
          exact .inr ⟨by simp [rG], (goes_ofD (tell0_ok _) (noTL_ok _ _) (noLoops idsR'.2.2) hE).post (keepOf [2, 3, 4])⟩
      | false =>
        have hk := okG_next ha h9 h8
        have hk8 : i ≤ 8 := by have : i + 1 ≤ 9 := hk.1; omega
        rw [h8, cond_false, wrap_nat (by omega), unit_eq hk8] at hE
        exact .inl ⟨(i + 1, acc + (l.getD i 0).toNat % 128 * 128 ^ i), hk, by show l.length + 1 - (i + 1) < l.length + 1 - i; omega, rfl, goes_ofD (tell0_ok _) (noTL_ok _ _) (noLoops idsR'.2.2) hE⟩
  · rw [decide_eq_false (show ¬ (i : Int) < (l.length : Int) by omega), cond_false] at hE
    refine .inr ?_
    have he : gsL (l.drop i) i acc = none := by rw [List.drop_of_length_le (by omega)]; rfl
    show (rG 49 (gsL (l.drop i) i acc)).1 ≠ .normal ∧ Goes X0 _ _ (rG 49 (gsL (l.drop i) i acc)).1 (rG 49 (gsL (l.drop i) i acc)).2
    rw [he]
    exact ⟨by simp [rG], (goes_ofD (tell0_ok _) (noTL_ok _ _) (noLoops idsR'.2.2) hE).post (keepOf [])⟩
def LSR2 (S : St Pl) : Option (Bool × LR Pl) := match seenS 49 [0, 5, 6, 7] S with
  | some ([.pl ⟨.bytes, l⟩ .any, .int .u64 (.ofNat 0), .int .u64 (.ofNat 1), .int .i64 (.ofNat 0)], []) =>
    some (Nat.ble l.length big, .ite (gsL l 0 0).isNone (.leaf (.exit 0) (mkS 49 [] [])) (.leaf .ret (mkS 49 [(2, .int .u64 ((gsO l).1 : Int)), (3, dI (gsO l).2.1), (4, dI (gsO l).2.2)] [])))
  | _ => none
theorem LSR2_ok : SOk X0 (loopAt 32 0) LSR2 := by
  intro S c r h hc
  unfold LSR2 at h
  split at h
  · rename_i l hs
    simp only [Option.some.injEq, Prod.mk.injEq] at h
    obtain ⟨rfl, rfl⟩ := h
    simp only [Nat.ble_eq] at hc
    refine Goes.pre (keepOf [0, 5, 6, 7]) ?_
    rw [seenS_mask hs]
    have h1 := loopR' l hc
    rw [rG_ite] at h1
    exact h1
  · simp at h
theorem eR2 (l : List UInt8) : evF tell0 noTL (atL 3 LSR2 noL) 1 Tryd.f32 [.pl (pBytes l) .any] =
    ck_ (Nat.ble l.length big) (bif (gsL l 0 0).isNone then some (.tup [.int .u64 0, dI 0, dI 2]) else some (.tup [.int .u64 ((gsO l).1 : Int), dI (gsO l).2.1, dI (gsO l).2.2])) := by kernel_rfl
theorem refgetshort_sound (l : List UInt8) : Snd 32 [.pl (pBytes l) .any] (.tup [.int .u64 ((gsO l).1 : Int), dI (gsO l).2.1, dI (gsO l).2.2]) := by
  refine SoundAt.rooms fun hroom => snd_fn (n := 1) (tell0_ok _) (noTL_ok _ _) (fn := Tryd.f32) (by kernel_rfl) (loops_of (fn := Tryd.f32) (by kernel_rfl) (loops_1 idsR'.1 (atL_ok (fun _ => LSR2_ok) fun h => absurd idsR'.2.1 h))) ((eR2 l).trans ?_)
  have ha : l.length * 1 ≤ big := hroom (.pl (pBytes l) .any) (by simp)
  rw [ck_t (ble_t (by omega))]
  cases h : gsL l 0 0 with
  | none => unfold gsO; rw [h]; rfl
  | some x => rfl
end Go.Proofs.YtgngobcmfflcpaaDoor
