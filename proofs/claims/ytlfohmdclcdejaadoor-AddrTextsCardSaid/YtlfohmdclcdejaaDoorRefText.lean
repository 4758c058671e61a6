/-
  TEXTS OF NUMBERS: what the document's functions compute.
-/
import Derived.Test.YtlfohmdclcdejaaDoorWhole
import Derived.Test.YtlfohmdclcdejaaDoorWide
namespace Go.Proofs.YtlfohmdclcdejaaDoor.Nu
open Go.Eng

set_option maxRecDepth 100000

-- digits

def dgs (u : Int) : Str := Lib.decDigits u.toNat
def pDg (m : Int) : List (D Pl) → Option (Bool × D Pl)
  | [.int .u64 b] => some (decide (0 ≤ b) && decide (b < m), .str (dgs b))
  | _ => none
theorem pDg_ok {m : Int} (h : ∀ b : Int, 0 ≤ b → b < m → Snd 52 [.int .u64 b] (.str (dgs b))) : ∀ ds b d, pDg m ds = some (b, d) → b = true → Snd 52 ds d := by
  intro ds b d he hb
  unfold pDg at he
  split at he
  · simp only [Option.some.injEq, Prod.mk.injEq] at he
    obtain ⟨rfl, rfl⟩ := he
    rw [Bool.and_eq_true] at hb
    exact h _ (of_decide_eq_true hb.1) (of_decide_eq_true hb.2)
  · simp at he

def ten : Str := [48, 49, 50, 51, 52, 53, 54, 55, 56, 57]
def pc (a b : Int) : Str := List.take (b.toNat - a.toNat) (List.drop a.toNat ten)
def pcOk (a b : Int) : Bool := (decide (0 ≤ a) && decide (a ≤ b) && decide (b ≤ 10)) || false
theorem e34 (m a : Int) : evF (tell 52 (pDg m) tell0) noTL noL 0 Tryd.f52 [.int .u64 a] = bif decide (a < 10) then ck_ (pcOk a (w64 (a + 1))) (some (.str (pc a (w64 (a + 1)))))
    else ck_ (decide (0 ≤ w64 (a.tdiv 10)) && decide (w64 (a.tdiv 10) < m)) (ck_ (pcOk (a.tmod 10) (w64 (a.tmod 10 + 1))) (ck_ (Nat.ble ((dgs (w64 (a.tdiv 10))).length + (pc (a.tmod 10) (w64 (a.tmod 10 + 1))).length) big || false) (some (.str (dgs (w64 (a.tdiv 10)) ++ pc (a.tmod 10) (w64 (a.tmod 10 + 1))))))) := by kernel_rfl

theorem pc_one : ∀ i : Fin 10, pc (i.val : Int) ((i.val : Int) + 1) = [UInt8.ofNat (48 + i.val)] := by decide +kernel

theorem digits_sound (n : Nat) : n < 18446744073709551616 → Snd 52 [.int .u64 (n : Int)] (.str (dgs n)) := by
  induction n using Nat.strongRecOn with
  | _ n ih =>
    intro hn
    refine snd_fn (n := 0) (tell_ok (pDg_ok (m := n) fun b h0 h1 => ?_) (tell0_ok _)) (noTL_ok _ _) (fn := Tryd.f52) (by kernel_rfl) (loops_of (fn := Tryd.f52) (by kernel_rfl) (loops_0 (f := 52) (by kernel_rfl))) ((e34 n n).trans ?_)
    · obtain ⟨k, rfl⟩ : ∃ k : Nat, b = k := ⟨b.toNat, by omega⟩
      exact ih k (by omega) (by omega)
    · by_cases h : n < 10
      · rw [decide_eq_true (show (n : Int) < 10 by omega), cond_true, show w64 ((n : Int) + 1) = (n : Int) + 1 by rw [wu]; omega]
        rw [ck_t (by unfold pcOk; rw [decide_eq_true (show (0 : Int) ≤ n by omega), decide_eq_true (show (n : Int) ≤ n + 1 by omega), decide_eq_true (show (n : Int) + 1 ≤ 10 by omega)]; rfl), pc_one ⟨n, h⟩]
        unfold dgs
        rw [Int.toNat_natCast, Lib.decDigits_one h]
      · have hq : w64 ((n : Int).tdiv 10) = ((n / 10 : Nat) : Int) := by
          rw [Int.tdiv_eq_ediv_of_nonneg (by omega), wu]; omega
        have hr : (n : Int).tmod 10 = ((n % 10 : Nat) : Int) := by
          rw [Int.tmod_eq_emod_of_nonneg (by omega)]; omega
        have hlt : n % 10 < 10 := Nat.mod_lt _ (by decide)
        rw [decide_eq_false (show ¬ (n : Int) < 10 by omega), cond_false, hq, hr, show w64 (((n % 10 : Nat) : Int) + 1) = ((n % 10 : Nat) : Int) + 1 by rw [wu]; omega,
          pc_one ⟨n % 10, hlt⟩, decide_eq_true (show (0 : Int) ≤ ((n / 10 : Nat) : Int) by omega), decide_eq_true (show ((n / 10 : Nat) : Int) < n by omega)]
        rw [ck_t (show (true && true) = true from rfl), ck_t (by unfold pcOk; rw [decide_eq_true (show (0 : Int) ≤ ((n % 10 : Nat) : Int) by omega), decide_eq_true (show ((n % 10 : Nat) : Int) ≤ ((n % 10 : Nat) : Int) + 1 by omega), decide_eq_true (show ((n % 10 : Nat) : Int) + 1 ≤ 10 by omega)]; rfl)]
        unfold dgs
        simp only [Int.toNat_natCast]
        have hlen : (Lib.decDigits (n / 10)).length ≤ 20 := by rw [Lib.decDigits_length]; exact Lib.nDigits_le20 _ (by omega)
        rw [ck_t (by rw [ble_t (show (Lib.decDigits (n / 10)).length + [UInt8.ofNat (48 + n % 10)].length ≤ big by simp only [List.length_singleton]; have : big = 140737488355328 := rfl; omega)]; rfl)]
        conv => rhs; rw [Lib.decDigits, dif_neg h]

def tDg (R : Eng.Told Pl) : Eng.Told Pl := tell 52 (pDg 18446744073709551616) R
theorem tDg_ok {R : Eng.Told Pl} (h : TOk R) : TOk (tDg R) := tell_ok (pDg_ok fun b h0 h1 => by
  obtain ⟨k, rfl⟩ : ∃ k : Nat, b = k := ⟨b.toNat, by omega⟩
  exact digits_sound k (by omega)) h

def okU (b : Int) : Bool := decide (0 ≤ b) && decide (b < 18446744073709551616)
theorem e19 (n : Int) : ev (tDg tell0) noTL 1 40 [dI n] = bif decide (n < 0) then ck_ (okU (w64 (0 - w64 n))) (ck_ (Nat.ble (1 + (dgs (w64 (0 - w64 n))).length) big || false) (some (.str (45 :: dgs (w64 (0 - w64 n))))))
    else ck_ (okU (w64 n)) (some (.str (dgs (w64 n)))) := by kernel_rfl

theorem okU_t {b : Int} (h : 0 ≤ b) (h2 : b < 18446744073709551616) : okU b = true := by unfold okU; rw [decide_eq_true h, decide_eq_true h2]; rfl

theorem refPrint_sound (n : Int) : Snd 40 [dI n] (.str (Lib.itoa n)) := by
  refine SoundAt.rooms fun hroom => snd_of (tDg_ok (tell0_ok _)) (noTL_ok _ _) ((e19 n).trans ?_)
  have hin : inR .i64 n = true := hroom (dI n) (by simp)
  simp only [inR, Bool.and_eq_true] at hin
  have h0 : -9223372036854775808 ≤ n := of_decide_eq_true hin.1
  have h1 : n ≤ 9223372036854775807 := of_decide_eq_true hin.2
  by_cases h : n < 0
  · have hw : w64 (0 - w64 n) = (n.natAbs : Int) := by rw [wu, wu]; omega
    have hl : (dgs (n.natAbs : Int)).length ≤ 20 := by unfold dgs; rw [Int.toNat_natCast, Lib.decDigits_length]; exact Lib.nDigits_le20 _ (by omega)
    rw [decide_eq_true h, cond_true, hw, ck_t (okU_t (by omega) (by omega)), ck_t (by rw [ble_t (show 1 + (dgs (n.natAbs : Int)).length ≤ big by have : big = 140737488355328 := rfl; omega)]; rfl)]
    unfold Lib.itoa dgs
    rw [if_pos h, Int.toNat_natCast]
  · have hw : w64 n = n := by rw [wu]; omega
    rw [decide_eq_false h, cond_false, hw, ck_t (okU_t (by omega) (by omega))]
    unfold Lib.itoa dgs
    rw [if_neg h]

end Go.Proofs.YtlfohmdclcdejaaDoor.Nu
