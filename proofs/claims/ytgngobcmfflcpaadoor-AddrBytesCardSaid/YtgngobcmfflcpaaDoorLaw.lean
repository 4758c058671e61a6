/-
  WHAT IS LAID IS READ AS IT WAS.
-/
import Derived.Test.YtgngobcmfflcpaaDoorRead2
namespace Go.Proofs.YtgngobcmfflcpaaDoor
open Go.Eng

set_option maxRecDepth 100000

theorem gsL_shL (n : Nat) : ∀ (i acc : Nat) (r : List UInt8), n * 128 ^ i < 2 ^ 64 → (n = 0 → i = 0) → i ≤ 9 → gsL (shL n ++ r) i acc = some (acc + n * 128 ^ i, i + (shL n).length, 0) := by
  induction n using Nat.strongRecOn with
  | _ n ih =>
    intro i acc r hn h0 hi
    by_cases h : n < 128
    · unfold shL
      rw [shI_lt h, shZ_lt h]
      have ht : (UInt8.ofNat n).toNat = n := by simp; omega
      show gsL (UInt8.ofNat n :: r) i acc = _
      rw [gsL, ht]
      have h9 : (bif i == 9 then decide (n > 1) else false) = false := by
        by_cases h9 : i = 9
        · subst h9
          have : (128 : Nat) ^ 9 = 9223372036854775808 := by decide
          rw [this] at hn
          rw [show ((9 : Nat) == 9) = true from rfl, cond_true]
          exact decide_eq_false (by omega)
        · rw [show (i == 9) = false from beq_eq_false_iff_ne.2 h9]; rfl
      have hz : (bif n == 0 then decide (i > 0) else false) = false := by
        by_cases hz : n = 0
        · rw [hz, h0 hz]; rfl
        · rw [show (n == 0) = false from beq_eq_false_iff_ne.2 hz]; rfl
      rw [h9, hz, decide_eq_true h, Nat.mod_eq_of_lt h]
      rfl
    · have hd : n / 128 < n := by omega
      have h1 : 1 ≤ n / 128 := by omega
      unfold shL
      rw [shI_ge h, shZ_ge h]
      have ht : (UInt8.ofNat (n % 128 + 128)).toNat = n % 128 + 128 := by simp; omega
      show gsL (UInt8.ofNat (n % 128 + 128) :: ((shI (n / 128) ++ [UInt8.ofNat (shZ (n / 128))]) ++ r)) i acc = _
      rw [gsL, ht]
      have hi8 : i ≤ 8 := by
        rcases Nat.lt_or_ge 8 i with h8 | h8
        · have : i = 9 := by omega
          subst this
          have : (128 : Nat) ^ 9 = 9223372036854775808 := by decide
          rw [this] at hn
          omega
        · exact h8
      rw [show (i == 9) = false from beq_eq_false_iff_ne.2 (by omega), decide_eq_false (show ¬ n % 128 + 128 < 128 by omega)]
      simp only [cond_false]
      have hle : n / 128 * 128 ^ (i + 1) ≤ n * 128 ^ i := by
        rw [Nat.pow_succ, Nat.mul_comm (128 ^ i) 128, ← Nat.mul_assoc]
        exact Nat.mul_le_mul_right _ (Nat.div_mul_le_self n 128)
      have := ih (n / 128) hd (i + 1) (acc + (n % 128 + 128) % 128 * 128 ^ i) r (Nat.lt_of_le_of_lt hle hn) (by omega) (by omega)
      unfold shL at this
      rw [this]
      have e : acc + (n % 128 + 128) % 128 * 128 ^ i + n / 128 * 128 ^ (i + 1) = acc + n * 128 ^ i := by
        rw [show (n % 128 + 128) % 128 = n % 128 by omega, Nat.pow_succ, Nat.mul_comm (128 ^ i) 128, ← Nat.mul_assoc, Nat.add_assoc, ← Nat.add_mul]
        congr 2
        omega
      rw [e]
      simp only [List.cons_append, List.length_cons]
      congr 3
      omega
theorem gsO_shL {n : Nat} (h : n < 2 ^ 64) (r : List UInt8) : gsO (shL n ++ r) = (n, (shL n).length, 0) := by
  unfold gsO
  rw [gsL_shL n 0 0 r (by simpa using h) (fun _ => rfl) (by decide)]
  simp
theorem gstO_stL {s : List UInt8} (h : s.length ≤ 24) (r : List UInt8) : gstO (stL s ++ r) = (s, (stL s).length, 0) := by
  unfold gstO stL
  rw [List.append_assoc, gsO_shL (by omega)]
  simp only
  rw [show (!((0 : Nat) == 0)) = false from rfl, show Nat.blt 24 s.length = false by (cases hb : Nat.blt 24 s.length; rfl; rw [Nat.blt_eq] at hb; omega)]
  simp only [cond_false, List.length_append]
  rw [show Nat.blt ((shL s.length).length + (s.length + r.length) - (shL s.length).length) s.length = false by (cases hb : Nat.blt ((shL s.length).length + (s.length + r.length) - (shL s.length).length) s.length; rfl; rw [Nat.blt_eq] at hb; omega)]
  simp only [cond_false]
  rw [List.drop_left, List.take_left]

theorem okK_kind {a : KeyR} (h : okK a = true) : kb a = UInt8.ofNat a.kind.toNat ∧ 0 ≤ a.kind ∧ a.kind ≤ 2 := by
  obtain ⟨_, _, hk, _⟩ := okK_lens h
  unfold kb
  rcases hk with ⟨k, _⟩ | ⟨k, _⟩ | ⟨k, _⟩ <;> rw [k] <;> exact ⟨rfl, by decide, by decide⟩
theorem keyM_eq {a : KeyR} {c bg x : Nat} {k : List UInt8} (h1 : a.kind = (c : Int)) (h2 : a.i = (bg : Int)) (h3 : a.k = k) (h4 : a.n = (x : Int)) : keyM a.ty a.name c k bg x = a := by
  unfold keyM
  rw [← h1, ← h2, ← h3, ← h4]

theorem tailM_form {l ty nm : List UInt8} {a : KeyR} {c bg q : Nat} {k : List UInt8} (hk : okK a = true) (hn : a.n ≤ 4294967295 ∧ 0 ≤ a.n) (h1 : a.kind = (c : Int)) (h2 : a.i = (bg : Int)) (h3 : a.k = k) (hb : bg ≤ 1000) (ht : ty = a.ty) (hm : nm = a.name) (hd : l.drop q = shL (un a).toNat) (hq : q + (shL (un a).toNat).length = l.length) :
    tailM l ty nm c k bg q = (a, l.length, 0) := by
  subst ht hm
  have hu : (un a).toNat = a.n.toNat := by unfold un; rw [wu64]; omega
  unfold tailM
  rw [hd, show shL (un a).toNat = shL (un a).toNat ++ [] by simp, gsO_shL (n := (un a).toNat) (wrap_lt a.n), hu]
  simp only
  rw [show Nat.blt 1000 bg = false by (cases hb : Nat.blt 1000 bg; rfl; rw [Nat.blt_eq] at hb; omega), show Nat.blt 4294967295 a.n.toNat = false by (cases hb : Nat.blt 4294967295 a.n.toNat; rfl; rw [Nat.blt_eq] at hb; omega),
    keyM_eq h1 h2 h3 (show a.n = (a.n.toNat : Int) by omega), hk]
  rw [hu] at hq
  simp only [show Nat.beq 0 0 = true from rfl, Bool.not_true, Bool.or_self, cond_false, hq]

/-- What is laid of an object is read as it. -/
theorem gtM_form {a : KeyR} (hk : okK a = true) (hn : a.n ≤ 4294967295 ∧ 0 ≤ a.n) : gtM (fmL a) = (a, (fmL a).length, 0) := by
  obtain ⟨h1, h2, h3, h4⟩ := okK_lens hk
  obtain ⟨hkb, hk0, hk2⟩ := okK_kind hk
  let mid : List UInt8 := bif a.kind == 1 then shL (ua a).toNat else bif a.kind == 2 then stL a.k else []
  have e : fmL a = stL a.ty ++ (stL a.name ++ (kb a :: (mid ++ shL (un a).toNat))) := by
    unfold fmL fm2 fm1
    simp [mid, List.append_assoc]
  have d1 : (fmL a).drop (stL a.ty).length = stL a.name ++ (kb a :: (mid ++ shL (un a).toNat)) := by rw [e, List.drop_left]
  have d2 : (fmL a).drop ((stL a.ty).length + (stL a.name).length) = kb a :: (mid ++ shL (un a).toNat) := by rw [← List.drop_drop, d1, List.drop_left]
  have d3 : (fmL a).drop ((stL a.ty).length + (stL a.name).length + 1) = mid ++ shL (un a).toNat := by rw [← List.drop_drop, d2]; rfl
  have hl : (fmL a).length = (stL a.ty).length + (stL a.name).length + 1 + mid.length + (shL (un a).toNat).length := by rw [e]; simp; omega
  have hlt : (stL a.ty).length + (stL a.name).length < (fmL a).length := by omega
  have hg := (getD_eq hlt).1
  rw [d2] at hg
  have hg : kb a = (fmL a).getD ((stL a.ty).length + (stL a.name).length) 0 := hg
  have hc : (kb a).toNat = a.kind.toNat := by rw [hkb]; simp; omega
  unfold gtM
  rw [show gstO (fmL a) = (a.ty, (stL a.ty).length, 0) by rw [e]; exact gstO_stL h1 _]
  simp only
  rw [d1, gstO_stL h2]
  simp only [show Nat.beq 0 0 = true from rfl, Bool.not_true, cond_false]
  unfold kindM
  rw [← hg, hc, d3, show Nat.ble (fmL a).length ((stL a.ty).length + (stL a.name).length) = false by (cases hb : Nat.ble (fmL a).length ((stL a.ty).length + (stL a.name).length); rfl; rw [Nat.ble_eq] at hb; omega)]
  simp only [cond_false]
  rcases h3 with ⟨k, i0, ks⟩ | ⟨k, i0, i1, ks⟩ | ⟨k, i0, ks⟩
  · have hm : mid = [] := by simp [mid, k]
    rw [hm] at d3 hl
    rw [k, hm]
    simp only [Int.toNat_zero, show Nat.blt 2 0 = false from rfl, show Nat.beq 0 1 = false from rfl, show Nat.beq 0 2 = false from rfl, cond_false]
    exact tailM_form hk hn k i0 ks (by decide) rfl rfl (by simpa using d3) (by simp at hl; omega)
  · have hm : mid = shL (ua a).toNat := by simp [mid, k]
    have hu : (ua a).toNat = a.i.toNat := by unfold ua; rw [wu64]; omega
    rw [k]
    simp only [show (1 : Int).toNat = 1 from rfl, show Nat.blt 2 1 = false from rfl, show Nat.beq 1 1 = true from rfl, cond_false, cond_true]
    rw [hm] at d3 hl
    rw [hm, gsO_shL (n := (ua a).toNat) (wrap_lt a.i)]
    simp only [show Nat.beq 0 0 = true from rfl, Bool.not_true, cond_false]
    refine tailM_form hk hn k (by rw [hu]; omega) ks (by rw [hu]; omega) rfl rfl ?_ (by omega)
    rw [← List.drop_drop, d3, List.drop_left]
  · have hm : mid = stL a.k := by simp [mid, k]
    rw [k]
    simp only [show (2 : Int).toNat = 2 from rfl, show Nat.blt 2 2 = false from rfl, show Nat.beq 2 1 = false from rfl, show Nat.beq 2 2 = true from rfl, cond_false, cond_true]
    rw [hm] at d3 hl
    rw [hm, gstO_stL ks]
    simp only [show Nat.beq 0 0 = true from rfl, Bool.not_true, cond_false]
    refine tailM_form hk hn k i0 rfl (by decide) rfl rfl ?_ (by omega)
    rw [← List.drop_drop, d3, List.drop_left]
end Go.Proofs.YtgngobcmfflcpaaDoor
