/-
  AN OBJECT's BYTES: the program's Put and the document's Form lay the same.
-/
import Derived.Test.YtgngobcmfflcpaaDoorStr
import Derived.Test.YtgngobcmfflcpaaDoorChk
namespace Go.Proofs.YtgngobcmfflcpaaDoor
open Go.Eng

set_option maxRecDepth 100000

noncomputable def tPut (b : Bool) : Eng.Told Pl := tell 21 (pCk b) (tell 9 (pRCk b) (tell 22 pCloneB tStrs))
theorem tPut_ok (b : Bool) : TOk (tPut b) := tell_ok (pCk_ok b) (tell_ok (pRCk_ok b) (tell_ok pCloneB_ok tStrs_ok))
def kb (a : KeyR) : UInt8 := UInt8.ofNat (IntKind.u8.wrap a.kind).toNat
def ua (a : KeyR) : Int := IntKind.u64.wrap a.i
def un (a : KeyR) : Int := IntKind.u64.wrap a.n
def owB (l : List UInt8) : Option (D Pl) := some (.ow [] (.pl (pBytes l) .any))
def put1 (b : List UInt8) (a : KeyR) : List UInt8 := (b ++ stL a.ty) ++ stL a.name
def put2 (b : List UInt8) (a : KeyR) : List UInt8 := put1 b a ++ [kb a]
def putE (a : KeyR) (l : List UInt8) : Option (D Pl) := ck_ (isU (un a) && Nat.ble (l.length + 11) big) (owB (l ++ shL (un a).toNat))
theorem ePut (b : List UInt8) (a : KeyR) : evF (tPut true) noTL noL 1 Tryd.f8 [.pl (pBytes b) .any, .agg (cK a)] =
    ck_ (okK a == true) (ck_ (Nat.ble (b.length + a.ty.length + 11) big) (ck_ (Nat.ble ((b ++ stL a.ty).length + a.name.length + 11) big) (ck_ (true && Nat.ble (((put1 b a).length + 1) * 1) big)
      (bif a.kind == 1 then ck_ (isU (ua a) && Nat.ble ((put2 b a).length + 11) big) (putE a (put2 b a ++ shL (ua a).toNat))
       else bif a.kind == 2 then ck_ (Nat.ble ((put2 b a).length + a.k.length + 11) big) (putE a (put2 b a ++ stL a.k))
       else putE a (put2 b a))))) := by kernel_rfl
theorem ePutF (b : List UInt8) (a : KeyR) : evF (tPut false) noTL noL 1 Tryd.f8 [.pl (pBytes b) .any, .agg (cK a)] =
    ck_ (okK a == false) (owB b) := by kernel_rfl
def fm1 (a : KeyR) : List UInt8 := stL a.ty ++ stL a.name
def fm2 (a : KeyR) : List UInt8 := fm1 a ++ [kb a]
def fmE (a : KeyR) (l : List UInt8) : Option (D Pl) := ck_ (isU (un a)) (ck_ (true && Nat.ble ((l.length + (shL (un a).toNat).length) * 1) big) (owB (l ++ shL (un a).toNat)))
def fm3 (a : KeyR) (l : List UInt8) : Option (D Pl) := bif a.kind == 2 then ck_ (Nat.ble (a.k.length + 11) big) (ck_ (true && Nat.ble ((l.length + (stL a.k).length) * 1) big) (fmE a (l ++ stL a.k))) else fmE a l
theorem eForm (a : KeyR) : evF (tPut true) noTL noL 1 Tryd.f10 [.agg (cK a)] =
    ck_ (Nat.ble (a.ty.length + 11) big) (ck_ (Nat.ble (a.name.length + 11) big) (ck_ (true && Nat.ble (((stL a.ty).length + (stL a.name).length) * 1) big) (ck_ (true && Nat.ble (((fm1 a).length + 1) * 1) big)
      (bif a.kind == 1 then ck_ (isU (ua a)) (ck_ (true && Nat.ble (((fm2 a).length + (shL (ua a).toNat).length) * 1) big) (fm3 a (fm2 a ++ shL (ua a).toNat)))
       else fm3 a (fm2 a))))) := by kernel_rfl

theorem isU_wrap (n : Int) : isU (IntKind.u64.wrap n) = true := by
  rw [wu64]
  have h1 := Int.emod_nonneg n (show (18446744073709551616 : Int) ≠ 0 by decide)
  have h2 := Int.emod_lt_of_pos n (show (0 : Int) < 18446744073709551616 by decide)
  obtain ⟨k, hk⟩ := Int.eq_ofNat_of_zero_le h1
  rw [hk] at h2 ⊢
  exact blt_t (by omega)
theorem wrap_lt (n : Int) : (IntKind.u64.wrap n).toNat < 2 ^ 64 := by
  rw [wu64]
  have h1 := Int.emod_nonneg n (show (18446744073709551616 : Int) ≠ 0 by decide)
  have h2 := Int.emod_lt_of_pos n (show (0 : Int) < 18446744073709551616 by decide)
  omega

/-- An object's bytes. -/
def fmL (a : KeyR) : List UInt8 := fm2 a ++ (bif a.kind == 1 then shL (ua a).toNat else bif a.kind == 2 then stL a.k else []) ++ shL (un a).toNat

theorem spelt_len {P : Int → Bool} {s : Str} (h : spelt P s = true) : 0 < s.length ∧ s.length ≤ 24 := by
  refine ⟨spelt_pos h, ?_⟩
  unfold spelt at h
  cases hl : lenBad s with
  | true => rw [hl] at h; simp at h
  | false =>
    unfold lenBad at hl
    cases h0 : s == [] with
    | true => rw [h0] at hl; simp at hl
    | false =>
      rw [h0] at hl
      simp only [cond_false, decide_eq_false_iff_not] at hl
      omega
theorem name_len {s : Str} (h : nameV s = true) : s.length ≤ 24 := by
  unfold nameV at h
  cases hs : spelt nameB s with
  | false => rw [hs] at h; simp at h
  | true => exact (spelt_len hs).2
/-- What holds of an object that may be. -/
theorem okK_lens {a : KeyR} (h : okK a = true) : a.ty.length ≤ 24 ∧ a.name.length ≤ 24 ∧ (a.kind = 0 ∧ a.i = 0 ∧ a.k = [] ∨ a.kind = 1 ∧ 0 ≤ a.i ∧ a.i < 128 ∧ a.k = [] ∨ a.kind = 2 ∧ a.i = 0 ∧ a.k.length ≤ 24) ∧ a.n ≠ 0 := by
  unfold okK okA at h
  simp only [ad0] at h
  cases h1 : nameV a.ty with
  | false => rw [h1] at h; simp at h
  | true =>
  cases h2 : nameV a.name with
  | false => rw [h1, h2] at h; simp at h
  | true =>
    rw [h1, h2] at h
    simp only [cond_true] at h
    refine ⟨name_len h1, name_len h2, ?_, ?_⟩
    · by_cases k0 : a.kind = 0
      · rw [k0] at h
        by_cases i0 : a.i = 0
        · by_cases s0 : a.k = []
          · exact .inl ⟨k0, i0, s0⟩
          · simp [i0, s0] at h
        · simp [i0] at h
      · by_cases k1 : a.kind = 1
        · rw [k1] at h
          by_cases hi : 0 ≤ a.i ∧ a.i < 128
          · by_cases s0 : a.k = []
            · exact .inr (.inl ⟨k1, hi.1, hi.2, s0⟩)
            · simp [s0] at h
          · exfalso
            by_cases hp : 0 ≤ a.i
            · have : ¬ a.i < 128 := fun h' => hi ⟨hp, h'⟩
              simp [this] at h
            · have hp' : ¬ a.i ≥ 0 := hp
              simp [hp'] at h
        · by_cases k2 : a.kind = 2
          · rw [k2] at h
            by_cases i0 : a.i = 0
            · refine .inr (.inr ⟨k2, i0, ?_⟩)
              cases h3 : spelt wordB a.k with
              | true => exact (spelt_len h3).2
              | false => rw [h3] at h; simp at h
            · simp [i0] at h
          · simp [k0, k1, k2] at h
    · intro hn
      simp [hn] at h
theorem stL_len {s : List UInt8} (h : s.length ≤ 24) : (stL s).length ≤ 35 := by
  have := shL_len (n := s.length) (by omega)
  simp [stL]; omega
theorem put_sound (b : List UInt8) (a : KeyR) (hb : b.length + 1000 ≤ big) : Snd 8 [.pl (pBytes b) .any, .agg (cK a)] (.ow [] (.pl (pBytes (bif okK a then b ++ fmL a else b)) .any)) := by
  cases hk : okK a with
  | false =>
    refine snd_fn (n := 1) (tPut_ok false) (noTL_ok _ _) (fn := Tryd.f8) (by kernel_rfl) (loops_of (f := 8) (fn := Tryd.f8) (by kernel_rfl) (loops_0 (by kernel_rfl))) ((ePutF b a).trans ?_)
    rw [hk]; rfl
  | true =>
    refine snd_fn (n := 1) (tPut_ok true) (noTL_ok _ _) (fn := Tryd.f8) (by kernel_rfl) (loops_of (f := 8) (fn := Tryd.f8) (by kernel_rfl) (loops_0 (by kernel_rfl))) ((ePut b a).trans ?_)
    obtain ⟨h1, h2, h3, h4⟩ := okK_lens hk
    have l1 := stL_len h1
    have l2 := stL_len h2
    have lu := shL_len (wrap_lt a.i)
    have p1 : (put1 b a).length ≤ b.length + 70 := by simp only [put1, List.length_append]; omega
    have p2 : (put2 b a).length ≤ b.length + 71 := by simp only [put2, List.length_append, List.length_singleton]; omega
    have hE : ∀ l : List UInt8, l.length ≤ b.length + 200 → putE a l = some (.ow [] (.pl (pBytes (l ++ shL (un a).toNat)) .any)) := by
      intro l hl
      unfold putE
      rw [show isU (un a) = true from isU_wrap a.n, ck_t (by rw [Bool.true_and]; exact ble_t (by omega))]
      rfl
    rw [hk, ck_t (c := (true == true)) rfl, ck_t (ble_t (by omega)), ck_t (ble_t (by simp only [List.length_append]; omega)), ck_t (by rw [Bool.true_and]; exact ble_t (by omega))]
    unfold fmL fm2 fm1
    rcases h3 with ⟨k, _, _⟩ | ⟨k, _, _, _⟩ | ⟨k, _, hl⟩ <;> rw [k]
    · show putE a (put2 b a) = _
      rw [hE _ (by omega)]
      simp [put2, put1, List.append_assoc]
    · show ck_ (isU (ua a) && Nat.ble ((put2 b a).length + 11) big) (putE a (put2 b a ++ shL (ua a).toNat)) = _
      rw [show isU (ua a) = true from isU_wrap a.i, ck_t (by rw [Bool.true_and]; exact ble_t (by omega)), hE _ (by simp only [List.length_append, ua]; omega)]
      simp [put2, put1, List.append_assoc]
    · show ck_ (Nat.ble ((put2 b a).length + a.k.length + 11) big) (putE a (put2 b a ++ stL a.k)) = _
      have := stL_len hl
      rw [ck_t (ble_t (by omega)), hE _ (by simp only [List.length_append]; omega)]
      simp [put2, put1, List.append_assoc]
theorem form_sound (a : KeyR) (hk : okK a = true) : Snd 10 [.agg (cK a)] (.ow [] (.pl (pBytes (fmL a)) .any)) := by
  refine snd_fn (n := 1) (tPut_ok true) (noTL_ok _ _) (fn := Tryd.f10) (by kernel_rfl) (loops_of (f := 10) (fn := Tryd.f10) (by kernel_rfl) (loops_0 (by kernel_rfl))) ((eForm a).trans ?_)
  have hbig : big = 140737488355328 := rfl
  obtain ⟨h1, h2, h3, h4⟩ := okK_lens hk
  have l1 := stL_len h1
  have l2 := stL_len h2
  have lu := shL_len (wrap_lt a.i)
  have ln := shL_len (wrap_lt a.n)
  have p1 : (fm1 a).length ≤ 70 := by simp only [fm1, List.length_append]; omega
  have p2 : (fm2 a).length ≤ 71 := by simp only [fm2, List.length_append, List.length_singleton]; omega
  have hE : ∀ l : List UInt8, l.length ≤ 200 → fmE a l = some (.ow [] (.pl (pBytes (l ++ shL (un a).toNat)) .any)) := by
    intro l hl
    unfold fmE
    rw [show isU (un a) = true from isU_wrap a.n, ck_t rfl, ck_t (by rw [Bool.true_and]; exact ble_t (by unfold un; omega))]
    rfl
  rw [ck_t (ble_t (by omega)), ck_t (ble_t (by omega)), ck_t (by rw [Bool.true_and]; exact ble_t (by omega)), ck_t (by rw [Bool.true_and]; exact ble_t (by omega))]
  unfold fmL
  rcases h3 with ⟨k, _, _⟩ | ⟨k, _, _, _⟩ | ⟨k, _, hl⟩ <;> rw [k]
  · show fm3 a (fm2 a) = _
    unfold fm3
    rw [k]
    show fmE a (fm2 a) = _
    rw [hE _ (by omega)]
    simp
  · show ck_ (isU (ua a)) (ck_ (true && Nat.ble (((fm2 a).length + (shL (ua a).toNat).length) * 1) big) (fm3 a (fm2 a ++ shL (ua a).toNat))) = _
    rw [show isU (ua a) = true from isU_wrap a.i, ck_t rfl, ck_t (by rw [Bool.true_and]; exact ble_t (by unfold ua; omega))]
    unfold fm3
    rw [k]
    show fmE a _ = _
    rw [hE _ (by simp only [List.length_append, ua]; omega)]
    simp
  · show fm3 a (fm2 a) = _
    unfold fm3
    rw [k]
    show ck_ (Nat.ble (a.k.length + 11) big) (ck_ (true && Nat.ble (((fm2 a).length + (stL a.k).length) * 1) big) (fmE a (fm2 a ++ stL a.k))) = _
    have := stL_len hl
    rw [ck_t (ble_t (by omega)), ck_t (by rw [Bool.true_and]; exact ble_t (by omega)), hE _ (by simp only [List.length_append]; omega)]
    simp
end Go.Proofs.YtgngobcmfflcpaaDoor
