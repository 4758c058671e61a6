/-
  TEXTS AS BYTES: the program's PutStr and the document's Str lay the same; GetStr, the program's and the document's.
-/
import Derived.Test.YtgngobcmfflcpaaDoorShort2
namespace Go.Proofs.YtgngobcmfflcpaaDoor
open Go.Eng

set_option maxRecDepth 100000

/-- The form of a text. -/
def stL (s : List UInt8) : List UInt8 := shL s.length ++ s

def isU : Int → Bool
  | .ofNat k => Nat.blt k 18446744073709551616
  | .negSucc _ => false
theorem isU_nat {n : Int} (h : isU n = true) : ∃ k : Nat, n = (k : Int) ∧ k < 2 ^ 64 := by
  cases n with
  | ofNat k => exact ⟨k, rfl, by simpa [isU] using h⟩
  | negSucc k => simp [isU] at h

def pPutShort : List (D Pl) → Option (Bool × D Pl)
  | [d, .int .u64 n] => match asBy d with
    | some l => some (isU n && Nat.ble (l.length + 11) big, .ow [] (.pl (pBytes (l ++ shL n.toNat)) .any))
    | none => none
  | _ => none
theorem pPutShort_ok : ∀ ds b d, pPutShort ds = some (b, d) → b = true → Snd 24 ds d := by
  intro ds b d h hb
  unfold pPutShort at h
  split at h
  · split at h
    · rename_i n _ l hl
      simp only [Option.some.injEq, Prod.mk.injEq] at h
      obtain ⟨rfl, rfl⟩ := h
      simp only [Bool.and_eq_true, Nat.ble_eq] at hb
      obtain ⟨k, rfl, hk⟩ := isU_nat hb.1
      exact (putshort_sound l k hb.2 hk).pre (.cons (asBy_rdle hl) (.cons (RDle.refl _) .nil))
    · simp at h
  · simp at h
def pShort : List (D Pl) → Option (Bool × D Pl)
  | [.int .u64 n] => some (isU n, .ow [] (.pl (pBytes (shL n.toNat)) .any))
  | _ => none
theorem pShort_ok : ∀ ds b d, pShort ds = some (b, d) → b = true → Snd 27 ds d := by
  intro ds b d h hb
  unfold pShort at h
  split at h
  · simp only [Option.some.injEq, Prod.mk.injEq] at h
    obtain ⟨rfl, rfl⟩ := h
    obtain ⟨k, rfl, hk⟩ := isU_nat hb
    exact refshort_sound k hk
  · simp at h
def gsD (l : List UInt8) : D Pl := .tup [.int .u64 ((gsO l).1 : Int), dI (gsO l).2.1, dI (gsO l).2.2]
def pGetShort : List (D Pl) → Option (Bool × D Pl)
  | [d] => match asBy d with
    | some l => some (true, gsD l)
    | none => none
  | _ => none
theorem pGetShort_ok : ∀ ds b d, pGetShort ds = some (b, d) → b = true → Snd 47 ds d := by
  intro ds b d h hb
  unfold pGetShort at h
  split at h
  · split at h
    · rename_i l hl
      simp only [Option.some.injEq, Prod.mk.injEq] at h
      obtain ⟨_, rfl⟩ := h
      exact (getshort_sound l).pre (.cons (asBy_rdle hl) .nil)
    · simp at h
  · simp at h
theorem pRGetShort_ok : ∀ ds b d, pGetShort ds = some (b, d) → b = true → Snd 32 ds d := by
  intro ds b d h hb
  unfold pGetShort at h
  split at h
  · split at h
    · rename_i l hl
      simp only [Option.some.injEq, Prod.mk.injEq] at h
      obtain ⟨_, rfl⟩ := h
      exact (refgetshort_sound l).pre (.cons (asBy_rdle hl) .nil)
    · simp at h
  · simp at h
noncomputable def tShorts : Eng.Told Pl := tell 24 pPutShort (tell 27 pShort (tell 47 pGetShort (tell 32 pGetShort tell0)))
theorem tShorts_ok : TOk tShorts := tell_ok pPutShort_ok (tell_ok pShort_ok (tell_ok pGetShort_ok (tell_ok pRGetShort_ok (tell0_ok _))))

theorem shL_len {n : Nat} (h : n < 2 ^ 64) : (shL n).length ≤ 11 := by
  have := shI_len9 h
  simp [shL]; omega
theorem wlen {s : List UInt8} (h : s.length ≤ big) : (IntKind.u64.wrap (s.length : Int)).toNat = s.length ∧ isU (IntKind.u64.wrap (s.length : Int)) = true := by
  have : big = 140737488355328 := rfl
  rw [wu64, show (s.length : Int) % 18446744073709551616 = ((s.length : Nat) : Int) by omega]
  refine ⟨rfl, ?_⟩
  show Nat.blt s.length 18446744073709551616 = true
  exact blt_t (by omega)

theorem ePutStr (b s : List UInt8) : evF tShorts noTL noL 1 Tryd.f23 [.pl (pBytes b) .any, .str s] =
    ck_ (isU (IntKind.u64.wrap (s.length : Int)) && Nat.ble (b.length + 11) big) (ck_ (true && Nat.ble (((b ++ shL (IntKind.u64.wrap (s.length : Int)).toNat).length + s.length) * 1) big) (some (.ow [] (.pl (pBytes ((b ++ shL (IntKind.u64.wrap (s.length : Int)).toNat) ++ s)) .any)))) := by kernel_rfl
theorem putstr_sound (b s : List UInt8) (h : b.length + s.length + 11 ≤ big) : Snd 23 [.pl (pBytes b) .any, .str s] (.ow [] (.pl (pBytes (b ++ stL s)) .any)) := by
  refine snd_fn (n := 1) tShorts_ok (noTL_ok _ _) (fn := Tryd.f23) (by kernel_rfl) (loops_of (f := 23) (fn := Tryd.f23) (by kernel_rfl) (loops_0 (by kernel_rfl))) ((ePutStr b s).trans ?_)
  have hbig : big = 140737488355328 := rfl
  obtain ⟨h1, h2⟩ := wlen (s := s) (by omega)
  have h3 := shL_len (n := s.length) (by omega)
  rw [h1, h2, ck_t (by rw [Bool.true_and]; exact ble_t (by omega)), ck_t (by rw [Bool.true_and]; exact ble_t (by simp only [List.length_append]; omega)), List.append_assoc]
  rfl
theorem eStr (s : List UInt8) : evF tShorts noTL noL 1 Tryd.f26 [.str s] =
    ck_ (isU (IntKind.u64.wrap (s.length : Int))) (ck_ (true && Nat.ble (((shL (IntKind.u64.wrap (s.length : Int)).toNat).length + s.length) * 1) big) (some (.ow [] (.pl (pBytes (shL (IntKind.u64.wrap (s.length : Int)).toNat ++ s)) .any)))) := by kernel_rfl
theorem str_sound (s : List UInt8) (h : s.length + 11 ≤ big) : Snd 26 [.str s] (.ow [] (.pl (pBytes (stL s)) .any)) := by
  refine snd_fn (n := 1) tShorts_ok (noTL_ok _ _) (fn := Tryd.f26) (by kernel_rfl) (loops_of (f := 26) (fn := Tryd.f26) (by kernel_rfl) (loops_0 (by kernel_rfl))) ((eStr s).trans ?_)
  have hbig : big = 140737488355328 := rfl
  obtain ⟨h1, h2⟩ := wlen (s := s) (by omega)
  have h3 := shL_len (n := s.length) (by omega)
  rw [h1, h2, ck_t rfl, ck_t (by rw [Bool.true_and]; exact ble_t (by omega))]
  rfl

-- GetStr

theorem gsL_ok : ∀ (l : List UInt8) (i acc a u e : Nat), gsL l i acc = some (a, u, e) → (e = 0 ∧ i < u ∧ u ≤ i + l.length) ∨ e = 4 := by
  intro l
  induction l with
  | nil => intro i acc a u e h; simp [gsL] at h
  | cons c r ih =>
    intro i acc a u e h
    rw [gsL] at h
    cases h1 : (bif i == 9 then decide (c.toNat > 1) else false) with
    | true =>
      rw [h1] at h
      simp only [cond_true, Option.some.injEq, Prod.mk.injEq] at h; exact .inr h.2.2.symm
    | false =>
      rw [h1, cond_false] at h
      cases h2 : decide (c.toNat < 128) with
      | true =>
        rw [h2, cond_true] at h
        cases h3 : (bif c.toNat == 0 then decide (i > 0) else false) with
        | true =>
          rw [h3] at h
          simp only [cond_true, Option.some.injEq, Prod.mk.injEq] at h; exact .inr h.2.2.symm
        | false =>
          rw [h3] at h
          simp only [cond_false, Option.some.injEq, Prod.mk.injEq] at h
          exact .inl ⟨h.2.2.symm, by omega, by simp; omega⟩
      | false =>
        rw [h2, cond_false] at h
        rcases ih _ _ _ _ _ h with ⟨h1, h2, h3⟩ | h1
        · exact .inl ⟨h1, by omega, by simp; omega⟩
        · exact .inr h1
theorem gsO_ok {l : List UInt8} (h : (gsO l).2.2 = 0) : 0 < (gsO l).2.1 ∧ (gsO l).2.1 ≤ l.length := by
  unfold gsO at *
  cases hg : gsL l 0 0 with
  | none => rw [hg] at h; simp at h
  | some x =>
    obtain ⟨a, u, e⟩ := x
    rw [hg] at h
    simp only [Option.getD_some] at h ⊢
    subst h
    rcases gsL_ok _ _ _ _ _ _ hg with ⟨_, h1, h2⟩ | h1
    · omega
    · omega
theorem blt_le {a b : Nat} (h : Nat.blt a b = false) : b ≤ a := by
  rcases Nat.lt_or_ge a b with h1 | h1
  · rw [blt_t h1] at h; cases h
  · exact h1
theorem gt_blt (a b : Nat) : decide ((a : Int) > (b : Int)) = Nat.blt b a := by
  cases h : Nat.blt b a with
  | true => rw [Nat.blt_eq] at h; exact decide_eq_true (by omega)
  | false => have := blt_le h; exact decide_eq_false (by omega)
theorem wi64 {n : Nat} (h : n < 9223372036854775808) : IntKind.i64.wrap (n : Int) = (n : Int) := by
  simp only [IntKind.wrap, IntKind.bits, IntKind.signed]
  simp
  omega
/-- A text of at most 24 bytes: it, how many bytes, what is wrong. -/
def gstO (l : List UInt8) : List UInt8 × Nat × Nat :=
  bif !((gsO l).2.2 == 0) then ([], 0, (gsO l).2.2) else bif Nat.blt 24 (gsO l).1 then ([], 0, 3) else bif Nat.blt (l.length - (gsO l).2.1) (gsO l).1 then ([], 0, 2) else ((l.drop (gsO l).2.1).take (gsO l).1, (gsO l).2.1 + (gsO l).1, 0)
def gstD (l : List UInt8) : D Pl := .tup [.str (gstO l).1, dI (gstO l).2.1, dI (gstO l).2.2]
noncomputable def gstR (b : List UInt8) : Option (D Pl) :=
  bif (((gsO b).2.2 : Nat) : Int) != 0 then some (.tup [.str [], dI 0, dI (gsO b).2.2]) else
  bif decide (((gsO b).1 : Int) > 24) then some (.tup [.str [], dI 0, dI 3]) else
  bif decide (((gsO b).1 : Int) > IntKind.u64.wrap (IntKind.i64.wrap ((b.length : Int) - (gsO b).2.1))) then some (.tup [.str [], dI 0, dI 2]) else
  bif ((true && decide (0 ≤ ((gsO b).2.1 : Int)) && decide (((gsO b).2.1 : Int) ≤ IntKind.i64.wrap (((gsO b).2.1 : Int) + IntKind.i64.wrap (gsO b).1)) && decide (IntKind.i64.wrap (((gsO b).2.1 : Int) + IntKind.i64.wrap (gsO b).1) ≤ (b.length : Int))) || false) then
    some (.tup [.str ((b.drop ((gsO b).2.1 : Int).toNat).take ((IntKind.i64.wrap (((gsO b).2.1 : Int) + IntKind.i64.wrap (gsO b).1)).toNat - ((gsO b).2.1 : Int).toNat)), .int .i64 (IntKind.i64.wrap (((gsO b).2.1 : Int) + IntKind.i64.wrap (gsO b).1)), dI 0]) else none
theorem gstR_eq {b : List UInt8} (hb : b.length ≤ big) : gstR b = some (gstD b) := by
  have hbig : big = 140737488355328 := rfl
  unfold gstR gstD gstO
  by_cases h0 : (gsO b).2.2 = 0
  · obtain ⟨h1, h2⟩ := gsO_ok h0
    rw [h0]
    simp only [show (((0 : Nat) : Int) != 0) = false from rfl, show (!((0 : Nat) == 0)) = false from rfl, cond_false]
    rw [show decide (((gsO b).1 : Int) > 24) = Nat.blt 24 (gsO b).1 from gt_blt _ 24]
    cases h24 : Nat.blt 24 (gsO b).1 with
    | true => rfl
    | false =>
      have hle : (gsO b).1 ≤ 24 := blt_le h24
      simp only [cond_false]
      rw [show (b.length : Int) - (gsO b).2.1 = ((b.length - (gsO b).2.1 : Nat) : Int) by omega, wi64 (n := b.length - (gsO b).2.1) (by omega), wu64, show ((b.length - (gsO b).2.1 : Nat) : Int) % 18446744073709551616 = ((b.length - (gsO b).2.1 : Nat) : Int) by omega, gt_blt]
      cases hk : Nat.blt (b.length - (gsO b).2.1) (gsO b).1 with
      | true => rfl
      | false =>
        have hlk : (gsO b).1 ≤ b.length - (gsO b).2.1 := blt_le hk
        simp only [cond_false]
        rw [wi64 (n := (gsO b).1) (by omega), show ((gsO b).2.1 : Int) + ((gsO b).1 : Nat) = (((gsO b).2.1 + (gsO b).1 : Nat) : Int) by omega, wi64 (by omega), decide_eq_true (show (0 : Int) ≤ ((gsO b).2.1 : Int) by omega), decide_eq_true (show ((gsO b).2.1 : Int) ≤ (((gsO b).2.1 + (gsO b).1 : Nat) : Int) by omega), decide_eq_true (show (((gsO b).2.1 + (gsO b).1 : Nat) : Int) ≤ (b.length : Int) by omega)]
        simp only [Bool.and_self, Bool.or_false, cond_true]
        rw [show (((gsO b).2.1 + (gsO b).1 : Nat) : Int).toNat - ((gsO b).2.1 : Int).toNat = (gsO b).1 by omega]
        rfl
  · rw [show ((((gsO b).2.2 : Nat) : Int) != 0) = true by rw [bne_iff_ne]; omega, show (!((gsO b).2.2 == 0)) = true by simp [h0]]
    rfl
theorem eGetStr (b : List UInt8) : evF tShorts noTL noL 1 Tryd.f44 [.pl (pBytes b) .any, .int .i64 24] = gstR b := by kernel_rfl
theorem eRGetStr (b : List UInt8) : evF tShorts noTL noL 1 Tryd.f31 [.pl (pBytes b) .any, .int .i64 24] = gstR b := by kernel_rfl
theorem getstr_sound (b : List UInt8) : Snd 44 [.pl (pBytes b) .any, .int .i64 24] (gstD b) := by
  refine SoundAt.rooms fun hroom => snd_fn (n := 1) tShorts_ok (noTL_ok _ _) (fn := Tryd.f44) (by kernel_rfl) (loops_of (f := 44) (fn := Tryd.f44) (by kernel_rfl) (loops_0 (by kernel_rfl))) ((eGetStr b).trans ?_)
  have ha : b.length * 1 ≤ big := hroom (.pl (pBytes b) .any) (by simp)
  exact gstR_eq (by omega)
theorem rgetstr_sound (b : List UInt8) : Snd 31 [.pl (pBytes b) .any, .int .i64 24] (gstD b) := by
  refine SoundAt.rooms fun hroom => snd_fn (n := 1) tShorts_ok (noTL_ok _ _) (fn := Tryd.f31) (by kernel_rfl) (loops_of (f := 31) (fn := Tryd.f31) (by kernel_rfl) (loops_0 (by kernel_rfl))) ((eRGetStr b).trans ?_)
  have ha : b.length * 1 ≤ big := hroom (.pl (pBytes b) .any) (by simp)
  exact gstR_eq (by omega)

-- told

def pPutStr : List (D Pl) → Option (Bool × D Pl)
  | [d, .str s] => match asBy d with
    | some l => some (Nat.ble (l.length + s.length + 11) big, .ow [] (.pl (pBytes (l ++ stL s)) .any))
    | none => none
  | _ => none
theorem pPutStr_ok : ∀ ds b d, pPutStr ds = some (b, d) → b = true → Snd 23 ds d := by
  intro ds b d h hb
  unfold pPutStr at h
  split at h
  · split at h
    · rename_i n _ l hl
      simp only [Option.some.injEq, Prod.mk.injEq] at h
      obtain ⟨rfl, rfl⟩ := h
      simp only [Nat.ble_eq] at hb
      exact (putstr_sound l _ hb).pre (.cons (asBy_rdle hl) (.cons (RDle.refl _) .nil))
    · simp at h
  · simp at h
def pStr : List (D Pl) → Option (Bool × D Pl)
  | [.str s] => some (Nat.ble (s.length + 11) big, .ow [] (.pl (pBytes (stL s)) .any))
  | _ => none
theorem pStr_ok : ∀ ds b d, pStr ds = some (b, d) → b = true → Snd 26 ds d := by
  intro ds b d h hb
  unfold pStr at h
  split at h
  · simp only [Option.some.injEq, Prod.mk.injEq] at h
    obtain ⟨rfl, rfl⟩ := h
    simp only [Nat.ble_eq] at hb
    exact str_sound _ hb
  · simp at h
def pGetStr : List (D Pl) → Option (Bool × D Pl)
  | [d, .int .i64 24] => match asBy d with
    | some l => some (true, gstD l)
    | none => none
  | _ => none
theorem pGetStr_ok : ∀ ds b d, pGetStr ds = some (b, d) → b = true → Snd 44 ds d := by
  intro ds b d h hb
  unfold pGetStr at h
  split at h
  · split at h
    · rename_i l hl
      simp only [Option.some.injEq, Prod.mk.injEq] at h
      obtain ⟨_, rfl⟩ := h
      exact (getstr_sound l).pre (.cons (asBy_rdle hl) (.cons (RDle.refl _) .nil))
    · simp at h
  · simp at h
theorem pRGetStr_ok : ∀ ds b d, pGetStr ds = some (b, d) → b = true → Snd 31 ds d := by
  intro ds b d h hb
  unfold pGetStr at h
  split at h
  · split at h
    · rename_i l hl
      simp only [Option.some.injEq, Prod.mk.injEq] at h
      obtain ⟨_, rfl⟩ := h
      exact (rgetstr_sound l).pre (.cons (asBy_rdle hl) (.cons (RDle.refl _) .nil))
    · simp at h
  · simp at h
noncomputable def tStrs : Eng.Told Pl := tell 23 pPutStr (tell 26 pStr (tell 44 pGetStr (tell 31 pGetStr tShorts)))
theorem tStrs_ok : TOk tStrs := tell_ok pPutStr_ok (tell_ok pStr_ok (tell_ok pGetStr_ok (tell_ok pRGetStr_ok tShorts_ok)))
end Go.Proofs.YtgngobcmfflcpaaDoor
