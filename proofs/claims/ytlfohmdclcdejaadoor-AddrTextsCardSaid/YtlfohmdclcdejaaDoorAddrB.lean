/-
  TEXTS OF ADDRESSES: Print, last, Base, an object's text.
-/
import Derived.Test.YtlfohmdclcdejaaDoorAddrA
namespace Go.Proofs.YtlfohmdclcdejaaDoor
open Go.Eng
open Nu (parseV refParseV back isD dec_ok byt_get parse_eq dgs)

set_option maxRecDepth 100000

def cc (x y : Str) (k : Str → Option (D Pl)) : Option (D Pl) := ck_ (Nat.ble (x.length + y.length) big || false) (k (x ++ y))
theorem cc_t {x y : Str} (h : x.length + y.length ≤ big) (k : Str → Option (D Pl)) : cc x y k = k (x ++ y) := by
  unfold cc; rw [ck_t (by rw [ble_t h]; rfl)]

def stS (x : Str) : Option (D Pl) := some (.str x)
theorem e22p (a : KeyR) : ev (tPr tell0) noTL 3 22 [.agg (cAd a)] = cc a.ty [46] fun o1 => cc o1 a.name fun o2 => bif a.kind == 1 then cc [91] (Lib.itoa a.i) fun p => cc p [93] fun q => cc o2 q stS
    else bif a.kind == 2 then cc [91, 34] a.k fun p => cc p [34, 93] fun q => cc o2 q stS else stS o2 := by kernel_rfl
theorem e23p (a : KeyR) : ev (tPr tell0) noTL 3 23 [.agg (cAd a)] = cc a.ty [46] fun o1 => cc o1 a.name fun o2 => bif a.kind == 1 then cc o2 [91] fun p => cc p (Lib.itoa a.i) fun q => cc q [93] fun r =>
    (bif a.kind == 2 then cc r [91, 34] fun p => cc p a.k fun q => cc q [34, 93] stS else stS r)
    else bif a.kind == 2 then cc o2 [91, 34] fun p => cc p a.k fun q => cc q [34, 93] stS else stS o2 := by kernel_rfl

def smA (a : KeyR) : Bool := Nat.ble a.ty.length 1000 && (Nat.ble a.name.length 1000 && Nat.ble a.k.length 1000)

theorem smA_le {a : KeyR} (h : smA a = true) : a.ty.length ≤ 1000 ∧ a.name.length ≤ 1000 ∧ a.k.length ≤ 1000 := by
  unfold smA at h
  simp only [Bool.and_eq_true, Nat.ble_eq] at h
  exact ⟨h.1, h.2.1, h.2.2⟩

theorem big_eq : big = 140737488355328 := rfl

theorem print_sound {a : KeyR} (hs : smA a = true) : Snd 22 [.agg (cAd a)] (.str (printV a)) := by
  refine SoundAt.rooms fun hroom => snd_of (tPr_ok (tell0_ok _)) (noTL_ok _ _) ((e22p a).trans ?_)
  have hin : inR .i64 a.i = true := hroom (.agg (cAd a)) (by simp) (dI a.i) (by simp [cAd])
  simp only [inR, Bool.and_eq_true] at hin
  have hi := Lib.itoa_length_le a.i (of_decide_eq_true hin.1) (of_decide_eq_true hin.2)
  obtain ⟨h1, h2, h3⟩ := smA_le hs
  have hb := big_eq
  rw [cc_t (by simp; omega), cc_t (by simp; omega)]
  unfold printV
  cases hk1 : a.kind == 1 with
  | true =>
    simp only [cond_true]
    rw [cc_t (by simp; omega), cc_t (by simp; omega), cc_t (by simp; omega)]; rfl
  | false =>
    simp only [cond_false]
    cases hk2 : a.kind == 2 with
    | true =>
      simp only [cond_true]
      rw [cc_t (by simp; omega), cc_t (by simp; omega), cc_t (by simp; omega)]; rfl
    | false =>
      simp only [cond_false]
      rw [List.append_nil]; rfl

theorem refPrint_sound {a : KeyR} (hs : smA a = true) : Snd 23 [.agg (cAd a)] (.str (printV a)) := by
  refine SoundAt.rooms fun hroom => snd_of (tPr_ok (tell0_ok _)) (noTL_ok _ _) ((e23p a).trans ?_)
  have hin : inR .i64 a.i = true := hroom (.agg (cAd a)) (by simp) (dI a.i) (by simp [cAd])
  simp only [inR, Bool.and_eq_true] at hin
  have hi := Lib.itoa_length_le a.i (of_decide_eq_true hin.1) (of_decide_eq_true hin.2)
  obtain ⟨h1, h2, h3⟩ := smA_le hs
  have hb := big_eq
  rw [cc_t (by simp; omega), cc_t (by simp; omega)]
  unfold printV
  cases hk1 : a.kind == 1 with
  | true =>
    have hk2 : (a.kind == 2) = false := by
      have : a.kind = 1 := by simpa using hk1
      rw [this]; rfl
    simp only [cond_true, hk2, cond_false]
    rw [cc_t (by simp; omega), cc_t (by simp; omega), cc_t (by simp; omega)]
    unfold stS
    simp [List.append_assoc]
  | false =>
    simp only [cond_false]
    cases hk2 : a.kind == 2 with
    | true =>
      simp only [cond_true]
      rw [cc_t (by simp; omega), cc_t (by simp; omega), cc_t (by simp; omega)]
      unfold stS
      simp [List.append_assoc]
    | false =>
      simp only [cond_false]
      rw [List.append_nil]; rfl

def pAc (f : KeyR → Bool × D Pl) : List (D Pl) → Option (Bool × D Pl)
  | [.agg x] => match dAd x with
    | some a => some (f a)
    | none => none
  | _ => none
theorem pAc_ok {g : FuncId} {f : KeyR → Bool × D Pl} (hf : ∀ a, (f a).1 = true → Snd g [.agg (cAd a)] (f a).2) : ∀ ds b d, pAc f ds = some (b, d) → b = true → Snd g ds d := by
  intro ds b d h hb
  unfold pAc at h
  split at h
  · split at h
    · rename_i h1
      simp only [Option.some.injEq] at h
      rw [dAd_eq h1]
      have := hf _ (by rw [h]; exact hb)
      rw [h] at this
      exact this
    · simp at h
  · simp at h

def tAP (R : Eng.Told Pl) : Eng.Told Pl := tell 22 (pAc fun a => (smA a, .str (printV a))) (tell 23 (pAc fun a => (smA a, .str (printV a))) R)
theorem tAP_ok {R : Eng.Told Pl} (h : TOk R) : TOk (tAP R) := tell_ok (pAc_ok fun _ h => print_sound h) (tell_ok (pAc_ok fun _ h => refPrint_sound h) h)

-- an object's text

theorem e24p (a : KeyR) : ev (tAP (tell 41 pFu tell0)) noTL 3 24 [.agg (cK a)] = ck_ (smA (ad0 a)) (cc (printV (ad0 a)) [35] fun x => cc x (dgs (w64 a.n)) stS) := by kernel_rfl
theorem e25p (a : KeyR) : ev (tAP (tPr tell0)) noTL 3 25 [.agg (cK a)] = ck_ (smA (ad0 a)) (cc (printV (ad0 a)) [35] fun x => cc x (Lib.itoa (i64 a.n)) stS) := by kernel_rfl

theorem printV_len {a : KeyR} (hs : smA a = true) (h0 : -9223372036854775808 ≤ a.i) (h1 : a.i ≤ 9223372036854775807) : (printV a).length ≤ 4000 := by
  obtain ⟨h2, h3, h4⟩ := smA_le hs
  have hi := Lib.itoa_length_le a.i h0 h1
  unfold printV
  cases a.kind == 1 with
  | true => simp only [cond_true]; simp; omega
  | false =>
    simp only [cond_false]
    cases a.kind == 2 with
    | true => simp only [cond_true]; simp; omega
    | false => simp only [cond_false]; simp; omega

def keyT (a : KeyR) : Str := printV a ++ [35] ++ Lib.itoa a.n

theorem key_in {a : KeyR} (hroom : ∀ d ∈ [(.agg (cK a) : D Pl)], Room X0.C d) : (-9223372036854775808 ≤ a.i ∧ a.i ≤ 9223372036854775807) ∧ (0 ≤ a.n ∧ a.n ≤ 4294967295) := by
  have h1 : inR .i64 a.i = true := hroom (.agg (cK a)) (by simp) (dI a.i) (by simp [cK])
  have h2 : inR .u32 a.n = true := hroom (.agg (cK a)) (by simp) (.int .u32 a.n) (by simp [cK])
  simp only [inR, Bool.and_eq_true] at h1 h2
  exact ⟨⟨of_decide_eq_true h1.1, of_decide_eq_true h1.2⟩, of_decide_eq_true h2.1, of_decide_eq_true h2.2⟩

theorem printKey_sound {a : KeyR} (hs : smA a = true) : Snd 24 [.agg (cK a)] (.str (keyT a)) := by
  refine SoundAt.rooms fun hroom => snd_of (tAP_ok (tell_ok pFu_ok (tell0_ok _))) (noTL_ok _ _) ((e24p a).trans ?_)
  obtain ⟨⟨h0, h1⟩, h2, h3⟩ := key_in hroom
  have hl := printV_len hs h0 h1
  have hi := Lib.itoa_length_le a.n (by omega) (by omega)
  have hb := big_eq
  have hd : dgs (w64 a.n) = Lib.itoa a.n := by
    rw [wu, show a.n % 18446744073709551616 = a.n by omega]
    unfold dgs Lib.itoa
    rw [if_neg (by omega)]
  rw [ck_t (show smA (ad0 a) = true from hs), hd, cc_t (by show (printV a).length + 1 ≤ big; omega), cc_t (by rw [List.length_append]; show (printV a).length + 1 + _ ≤ big; omega)]
  rfl

theorem refPrintKey_sound {a : KeyR} (hs : smA a = true) : Snd 25 [.agg (cK a)] (.str (keyT a)) := by
  refine SoundAt.rooms fun hroom => snd_of (tAP_ok (tPr_ok (tell0_ok _))) (noTL_ok _ _) ((e25p a).trans ?_)
  obtain ⟨⟨h0, h1⟩, h2, h3⟩ := key_in hroom
  have hl := printV_len hs h0 h1
  have hi := Lib.itoa_length_le a.n (by omega) (by omega)
  have hb := big_eq
  rw [ck_t (show smA (ad0 a) = true from hs), show i64 a.n = a.n by rw [wi]; omega, cc_t (by show (printV a).length + 1 ≤ big; omega), cc_t (by rw [List.length_append]; show (printV a).length + 1 + _ ≤ big; omega)]
  rfl

-- last, Base

theorem e36p (a : KeyR) (s : Str) : ev (tCu tell0) noTL 3 36 [.agg (cAd a), .str s] = bif Lib.hasPrefix s [34] then some (.agg (cAd ⟨a.ty, a.name, .ofNat 2, a.i, Lib.trimSuffix (Lib.trimPrefix s [34]) [34], .ofNat 0⟩)) else some (.agg (cAd ⟨a.ty, a.name, .ofNat 1, (parseV s).1, a.k, .ofNat 0⟩)) := by kernel_rfl
theorem last_sound (a : KeyR) (s : Str) : Snd 36 [.agg (cAd a), .str s] (.agg (cAd (lastV a s))) := by
  refine snd_of (tCu_ok (tell0_ok _)) (noTL_ok _ _) ((e36p a s).trans ?_)
  unfold lastV
  cases Lib.hasPrefix s [34] <;> rfl

def pLs : List (D Pl) → Option (Bool × D Pl)
  | [.agg x, .str s] => match dAd x with
    | some a => some (true, .agg (cAd (lastV a s)))
    | none => none
  | _ => none
theorem pLs_ok : ∀ ds b d, pLs ds = some (b, d) → b = true → Snd 36 ds d := by
  intro ds b d h hb
  unfold pLs at h
  split at h
  · split at h
    · rename_i h1
      simp only [Option.some.injEq, Prod.mk.injEq] at h
      obtain ⟨_, rfl⟩ := h
      rw [dAd_eq h1]
      exact last_sound _ _
    · simp at h
  · simp at h

theorem e26p (a : KeyR) : ev tell0 noTL 3 26 [.agg (cAd a)] = some (.agg (cAd ⟨a.ty, a.name, .ofNat 0, .ofNat 0, [], .ofNat 0⟩)) := by kernel_rfl
theorem base_sound (a : KeyR) : Snd 26 [.agg (cAd a)] (.agg (cAd ⟨a.ty, a.name, .ofNat 0, .ofNat 0, [], .ofNat 0⟩)) := snd_of (tell0_ok _) (noTL_ok _ _) (e26p a)

def tPa (R : Eng.Told Pl) : Eng.Told Pl := tell 36 pLs (tC (tAP (tCu R)))
theorem tPa_ok {R : Eng.Told Pl} (h : TOk R) : TOk (tPa R) := tell_ok pLs_ok (tC_ok (tAP_ok (tCu_ok h)))

end Go.Proofs.YtlfohmdclcdejaaDoor
