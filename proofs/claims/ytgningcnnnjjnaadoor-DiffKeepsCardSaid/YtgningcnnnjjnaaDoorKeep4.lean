/-
  WHAT IS LEFT AS IT WAS: both sides hand back the same value; a value that may be is good.
-/
import Derived.Test.YtgningcnnnjjnaaDoorKeep3
namespace Go.Proofs.YtgningcnnnjjnaaDoor
open Go.Eng

set_option maxRecDepth 100000

theorem bothF_kind {a b : Val} {k : Str} (hk : (a.kind != 5) = true) : bothF a b k = false := by
  cases h : bothF a b k with
  | false => rfl
  | true =>
    have := fnd_kind (bothF_spec h).1
    rw [this] at hk; simp at hk

theorem keepV_kind {a b : Val} (hk : (a.kind != 5) = true) (ign : List Str) : keepV a b ign = a := by
  have : ∀ (ign : List Str) (l : List Val), ign.foldl (setK a b) l = l := by
    intro ign
    induction ign with
    | nil => intro l; rfl
    | cons k r ih => intro l; rw [List.foldl_cons]; unfold setK; rw [bothF_kind hk]; exact ih l
  unfold keepV
  rw [this]
  exact etaV_eq a

theorem keepV_nil {a b : Val} (h : a.l = []) (ign : List Str) : keepV a b ign = a := by
  have : ∀ ign : List Str, ign.foldl (setK a b) [] = [] := by
    intro ign
    induction ign with
    | nil => rfl
    | cons k r ih => rw [List.foldl_cons]; unfold setK; cases bothF a b k <;> exact ih
  unfold keepV
  rw [h, this ign, ← h]
  exact etaV_eq a

theorem errV_zero (b : Val) (k : Str) : (errV b k == 0) = decide (fnd b k ≥ 0) := by
  unfold errV fnd idxV hasV
  cases hk : b.kind != 5 with
  | true =>
    have : keysV b = [] := by unfold keysV; rw [hk]; rfl
    rw [this]; rfl
  | false =>
    cases Nat.beq (posN (keysV b) k) (keysV b).length with
    | true => rfl
    | false => rw [cond_false, decide_eq_true (by simp)]; rfl

theorem elemV_el {b : Val} {k : Str} (h : fnd b k ≥ 0) : elemV b k = elD b k := by
  obtain ⟨h1, h2⟩ := fnd_pos h
  unfold elemV elD
  rw [h2, Int.toNat_natCast]
  have : hasV b k = true := by
    unfold hasV
    cases hb : Nat.beq (posN (keysV b) k) (keysV b).length with
    | false => rfl
    | true => have := Nat.eq_of_beq_eq_true hb; omega
  rw [this]; rfl

theorem keepP_eq {a b : Val} (h : Good a) (hk : a.kind = 5) (ign : List Str) : keepP a b ign = keepV a b ign := by
  have key : ∀ (ign : List Str) (l : List Val), l.length = a.l.length → ign.foldl (stepP a b) l = ign.foldl (setK a b) l := by
    intro ign
    induction ign with
    | nil => intro l _; rfl
    | cons k r ih =>
      intro l hl
      have e : stepP a b l k = setK a b l k := by
        unfold stepP setK
        have hc : cnd b l.length k (idxV a.keys k) = bothF a b k := by
          unfold cnd bothF
          rw [errV_zero]
          have hf : fnd a k = idxV a.keys k := by unfold fnd; rw [keysV_good h hk]
          rw [hf]
          by_cases h1 : idxV a.keys k ≥ 0
          · have h1' : fnd a k ≥ 0 := by rw [hf]; exact h1
            obtain ⟨p1, p2⟩ := fnd_pos h1'
            rw [keysV_good h hk] at p1 p2
            have hlen := h.len hk
            rw [hf] at p2
            rw [decide_eq_true h1, decide_eq_true (show idxV a.keys k < (l.length : Int) by omega)]
            cases decide (fnd b k ≥ 0) <;> rfl
          · rw [decide_eq_false h1]
            cases decide (fnd b k ≥ 0) <;> rfl
        rw [hc]
        cases hb : bothF a b k with
        | false => rfl
        | true =>
          obtain ⟨h1, h2⟩ := bothF_spec hb
          have hp := (fnd_pos h1).2
          unfold fnd at hp
          rw [keysV_good h hk] at hp
          simp only [cond_true]
          rw [hp, Int.toNat_natCast, elemV_el h2]
      rw [List.foldl_cons, List.foldl_cons, e]
      refine ih _ ?_
      unfold setK
      cases bothF a b k <;> simp [hl]
  unfold keepP keepV
  rw [key ign a.l rfl]

theorem KeepP_sound {a : Val} (h : Good a) (t : Str) (ign : List Str) (b : Val) : Snd 11 [.agg (cRI t ign), .agg (cV a), .agg (cV b)] (.agg (cV (keepV a b ign))) := by
  refine SoundAt.rooms fun hroom => ?_
  have h2 : Room _ (.agg (cRI t ign)) := hroom _ (by simp)
  have hl : ign.length * 16 ≤ big := h2 (.pl (pStrs ign) .any) (by simp [cRI])
  have hloops := loops_of (f := 11) (L := atL 5 (orS LS11a LS11e) noL) (fn := Tryd.f11) (by kernel_rfl) (loops_1 ids11.1 (atL_ok (fun _ => orS_ok LS11a_ok LS11e_ok) fun h => absurd ids11.2.1 h))
  cases h0 : Nat.beq a.l.length 0 with
  | true =>
    have hnil : a.l = [] := List.length_eq_zero_iff.1 (Nat.eq_of_beq_eq_true h0)
    rw [keepV_nil hnil]
    refine snd_fn (n := 1) (R := tCe (tGI tell0)) (tell_ok (p1_ok fun v _ => copy_sound v) (tGI_ok (tell0_ok _))) (noTL_ok _ _) (fn := Tryd.f11) (by kernel_rfl) hloops ((e11e t ign a b).trans ?_)
    rw [h0, ck_t (by rw [beq_self_eq_true, ble_t (by omega)]; rfl)]
    cases a.kind != 5 <;> rfl
  | false =>
    refine snd_fn (n := 1) (R := tCo (tGI tell0)) (tell_ok (p1_ok fun v hv => copy_own v (by simpa using hv)) (tGI_ok (tell0_ok _))) (noTL_ok _ _) (fn := Tryd.f11) (by kernel_rfl) hloops ((e11o t ign a b).trans ?_)
    rw [h0, Bool.not_false, ck_t rfl, ck_t (by rw [beq_self_eq_true, ble_t (by omega)]; rfl), etaV_eq, etaV_eq]
    cases hk : a.kind != 5 with
    | true => rw [keepV_kind hk]; rfl
    | false => rw [keepP_eq h (by simpa [bne] using hk)]; rfl

-- what may be is good

def goodB (a : Val) : Bool := Nat.ble (a.keys.length * 104) big && (bif a.kind != 5 then true else risB a.keys && (Nat.beq a.keys.length a.l.length && (a.i == 0 && (a.s == [] && (a.tk == 0 && a.tof == 0)))))

theorem good_of {a : Val} (h : goodB a = true) : Good a := by
  unfold goodB at h
  simp only [Bool.and_eq_true, Nat.ble_eq] at h
  obtain ⟨h1, h2⟩ := h
  have key : a.kind = 5 → risB a.keys = true ∧ Nat.beq a.keys.length a.l.length = true ∧ a.i = 0 ∧ a.s = [] ∧ a.tk = 0 ∧ a.tof = 0 := by
    intro hk
    rw [show (a.kind != 5) = false by simp [bne, hk], cond_false] at h2
    simpa only [Bool.and_eq_true, beq_iff_eq] using h2
  exact ⟨fun hk => (key hk).1, fun hk => Nat.eq_of_beq_eq_true (key hk).2.1, h1, fun hk => (key hk).2.2.1, fun hk => (key hk).2.2.2.1, fun hk => (key hk).2.2.2.2.1, fun hk => (key hk).2.2.2.2.2⟩

theorem good_ckd {a : Val} (h : ckd a) : goodB a = true := by
  obtain ⟨h2, h3, h4, h5, h6, hk⟩ := h
  unfold goodB
  have hbig : big = 140737488355328 := rfl
  cases hkd : a.kind != 5 with
  | true =>
    have h0 : a.keys.length = 0 := by
      unfold q6 at h6
      rw [hkd] at h6
      simp only [cond_true] at h6
      cases hg : decide ((a.keys.length : Int) > 0) with
      | true => rw [hg] at h6; simp at h6
      | false => have := of_decide_eq_false hg; omega
    rw [h0]; rfl
  | false =>
    have hk5 : a.kind = 5 := by simpa [bne] using hkd
    have e5 : (a.kind == 5) = true := by simp [hk5]
    have hlen : a.keys.length = a.l.length := by
      unfold q6 at h6
      rw [hkd, e5] at h6
      simp only [cond_false, cond_true] at h6
      have : ((a.keys.length : Int)) = (a.l.length : Int) := by simpa [bne] using h6
      omega
    have hll : a.l.length ≤ 128 := by
      unfold q5 at h5
      rw [show (a.kind != 4) = true by simp [bne, hk5], hkd] at h5
      simp only [cond_true, cond_false] at h5
      have := of_decide_eq_false h5
      omega
    have hi : (a.i == 0) = true := by
      unfold q2 at h2
      rw [show (a.kind != 1) = true by simp [bne, hk5], show (a.kind != 2) = true by simp [bne, hk5]] at h2
      simp only [cond_true] at h2
      cases hi : a.i != 0 with
      | true => rw [hi] at h2; simp at h2
      | false => simpa [bne] using hi
    have hs : (a.s == []) = true := by
      unfold q3 at h3
      rw [show (a.kind != 3) = true by simp [bne, hk5]] at h3
      simp only [cond_true] at h3
      cases hs : a.s == [] with
      | true => rfl
      | false => rw [hs] at h3; simp at h3
    have ht : (a.tk == 0 && (a.tof == 0 && true)) = true := by
      unfold q4 at h4
      rw [show (a.kind != 6) = true by simp [bne, hk5]] at h4
      simp only [cond_true] at h4
      cases ht : (a.tk == 0 && (a.tof == 0 && true)) with
      | true => rfl
      | false => rw [ht] at h4; simp at h4
    have hr : risB a.keys = true := by
      unfold risB
      rw [List.all_eq_true] at hk ⊢
      intro i hi
      have hki := hk i hi
      cases i with
      | zero => rfl
      | succ j =>
        have hb : Nat.beq (j + 1) 0 = false := rfl
        rw [hb, cond_false]
        rw [show j + 1 - 1 = j by omega]
        have hki : (!(bif long (a.keys.getD (j + 1) []) then true else !(Op.bytesLess (a.keys.getD j []) (a.keys.getD (j + 1) [])))) = true := hki
        cases hl : long (a.keys.getD (j + 1) []) with
        | true => rw [hl] at hki; simp at hki
        | false => rw [hl] at hki; simpa using hki
    rw [ble_t (by omega), cond_false, hr, hlen, Nat.beq_refl, hi, hs]
    simpa using ht

end Go.Proofs.YtgningcnnnjjnaaDoor
