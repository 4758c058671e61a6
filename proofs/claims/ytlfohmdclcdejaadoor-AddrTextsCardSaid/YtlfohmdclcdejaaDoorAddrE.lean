/-
  THE LAW OF ADDRESSES' TEXTS.
-/
import Derived.Test.YtlfohmdclcdejaaDoorAddrD
namespace Go.Proofs.YtlfohmdclcdejaaDoor
open Go.Eng
open Nu (parseV refParseV back isD dec_ok byt_get parse_eq dgs)

set_option maxRecDepth 100000

theorem fs_range (s : Str) (c : Int) : ∀ n, n ≤ s.length → -1 ≤ fsI s c n ∧ fsI s c n < (n : Int) ∧ (0 ≤ fsI s c n → byt s (fsI s c n).toNat = c)
  | 0, _ => ⟨show (-1 : Int) ≤ -1 by decide, show (-1 : Int) < 0 by decide, fun h => absurd (show (0 : Int) ≤ -1 from h) (by decide)⟩
  | n + 1, h => by
    obtain ⟨h1, h2, h3⟩ := fs_range s c n (by omega)
    rw [fsI]
    cases hc : (bif byt s n == c then decide (fsI s c n < 0) else false) with
    | true =>
      simp only [cond_true]
      refine ⟨by omega, by omega, fun _ => ?_⟩
      rw [Int.toNat_natCast]
      cases hb : byt s n == c with
      | true => simpa using hb
      | false => rw [hb] at hc; cases hc
    | false =>
      simp only [cond_false]
      exact ⟨h1, by omega, h3⟩

theorem finR_eq (s : Str) (c : KeyR) : finR s c = some (prA (bif (bif okA c then printV c == s else false) then (c, 0) else (kZ, 4))) := by
  unfold finR
  cases h : okA c with
  | false => rfl
  | true =>
    rw [okA_sm h]
    cases printV c == s <;> rfl

theorem sl_mid {s : Str} {a b : Nat} : sl s (a : Int) (b : Int) = (s.drop a).take (b - a) := by
  unfold sl
  rw [Int.toNat_natCast, Int.toNat_natCast]

def keyF (s : Str) (c : KeyR) : Option (D Pl) := some (prA (bif (bif okA c then printV c == s else false) then (c, 0) else (kZ, 4)))

theorem keyR_eq {s ty nm t : Str} (ht : t.length ≤ big) : keyR s ty nm t = keyF s (keyV ⟨ty, nm, .ofNat 0, .ofNat 0, [], .ofNat 0⟩ t) := by
  have hb := big_eq
  unfold keyR keyV
  rw [ck_t (by
    by_cases h : 0 < t.length
    · rw [decide_eq_true (show (0 : Int) < (t.length : Int) by omega)]; rfl
    · rw [decide_eq_false (show ¬ (t.length : Int) ≥ 3 by omega)]; cases decide ((0 : Int) < (t.length : Int)) <;> rfl)]
  by_cases h3 : t.length ≥ 3
  · rw [decide_eq_true (show (t.length : Int) ≥ 3 by omega), cond_true]
    have hw : w6 ((t.length : Int) - 2) = ((t.length - 2 : Nat) : Int) := by
      show IntKind.i64.wrap _ = _
      rw [wrap_in _ (by omega)]; omega
    have hw1 : w6 ((t.length : Int) - 1) = ((t.length - 1 : Nat) : Int) := by
      show IntKind.i64.wrap _ = _
      rw [wrap_in _ (by omega)]; omega
    have hs : sl t 1 ((t.length - 2 : Nat) : Int) = (t.drop 1).take (t.length - 3) := by
      rw [show (1 : Int) = ((1 : Nat) : Int) from rfl, sl_mid, show t.length - 2 - 1 = t.length - 3 by omega]
    rw [hw, hw1, hs, sl_take, decide_eq_true (show (t.length : Int) > 0 by omega),
      ck_t (by rw [show slOk 1 ((t.length - 2 : Nat) : Int) (t.length : Int) = true from slOk_t (a := 1) (by omega) (by omega)]; rfl), ck_t (by rw [hdOk_t (by omega)]; rfl), finR_eq, finR_eq]
    cases byt t 0 == 34 <;> rfl
  · rw [decide_eq_false (show ¬ (t.length : Int) ≥ 3 by omega)]
    simp only [cond_false]
    by_cases h0 : t.length > 0
    · have hw1 : w6 ((t.length : Int) - 1) = ((t.length - 1 : Nat) : Int) := by
        show IntKind.i64.wrap _ = _
        rw [wrap_in _ (by omega)]; omega
      rw [hw1, sl_take, decide_eq_true (show (t.length : Int) > 0 by omega), ck_t (by rw [hdOk_t (by omega)]; rfl), finR_eq]
      rfl
    · rw [decide_eq_false (show ¬ (t.length : Int) > 0 by omega)]
      simp only [cond_false]
      rw [finR_eq]
      rfl

theorem bodyR_eq {s : Str} (hl : s.length ≤ big) {d o : Int} (hd : -1 ≤ d ∧ d < (s.length : Int)) (ho : -1 ≤ o ∧ o < (s.length : Int)) (hdo : 0 ≤ d → 0 ≤ o → d ≠ o) : bodyR s d o = some (prA (parse2 s d o)) := by
  have hb := big_eq
  unfold bodyR parse2
  cases hn : noC d o with
  | true => rfl
  | false =>
    simp only [cond_false]
    have hd0 : 0 ≤ d := by
      unfold noC at hn
      by_cases h : d < 0
      · rw [decide_eq_true h] at hn; cases hn
      · omega
    obtain ⟨i, rfl⟩ : ∃ i : Nat, d = i := ⟨d.toNat, by omega⟩
    have hw : w6 ((i : Int) + 1) = ((i + 1 : Nat) : Int) := wrap_nat (by omega)
    rw [hw, ck_t (by rw [hdOk_t (by omega)]; rfl), ck_t (by rw [slOk_t (by omega) (Nat.le_refl _)]; rfl), sl_take, sl_drop]
    unfold cand2
    by_cases h0 : o ≥ 0
    · obtain ⟨j, rfl⟩ : ∃ j : Nat, o = j := ⟨o.toNat, by omega⟩
      have hij : i < j := by
        unfold noC at hn
        rw [decide_eq_false (show ¬ (i : Int) < 0 by omega), cond_false, decide_eq_true h0, cond_true] at hn
        have h1 := of_decide_eq_false hn
        have h2 := hdo hd0 h0
        omega
      have hw2 : w6 ((j : Int) + 1) = ((j + 1 : Nat) : Int) := wrap_nat (by omega)
      rw [decide_eq_true h0, cond_true, cond_true, hw2, ck_t (by rw [slOk_t (by omega) (by omega)]; rfl), ck_t (by rw [slOk_t (by omega) (Nat.le_refl _)]; rfl), sl_mid, sl_drop, keyR_eq (by rw [List.length_drop]; omega)]
      rfl
    · rw [decide_eq_false h0, cond_false, cond_false, finR_eq]
      rfl

theorem refParse_sound (s : Str) : Snd 21 [.str s] (prA (parse1 s)) := by
  refine SoundAt.rooms fun hroom => snd_fn (n := 1) (tPa_ok (tell0_ok _)) (noTL_ok _ _) (fn := Tryd.f21) (by kernel_rfl) (loops_of (fn := Tryd.f21) (by kernel_rfl) (loops_1 ids21.1 (atL_ok (fun _ => LS21_ok) fun h => absurd ids21.2.1 h))) ((e21p s).trans ?_)
  have hl : s.length ≤ big := hroom (.str s) (by simp)
  obtain ⟨h1, h2, h3⟩ := fs_range s 46 s.length (Nat.le_refl _)
  obtain ⟨h4, h5, h6⟩ := fs_range s 91 s.length (Nat.le_refl _)
  rw [ck_t (ble_t hl), bodyR_eq hl ⟨h1, h2⟩ ⟨h4, h5⟩ (fun g1 g2 e => by
    have a := h3 g1
    have b := h6 g2
    rw [e, b] at a
    exact absurd a (by decide)), ← parses_eq]

end Go.Proofs.YtlfohmdclcdejaaDoor
