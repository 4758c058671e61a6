/-
  ZIGZAGS: the program and the document answer alike, and back again.
-/
import Derived.Test.YtondgbiamadehaaDoorAdds
namespace Go.Proofs.YtondgbiamadehaaDoor
open Go.Eng

set_option maxRecDepth 100000

def xorU (x y : Int) : Int := bitsE .xor .u64 x y
def xorI (x y : Int) : Int := bitsE .xor .i64 x y
def zigF (a : Int) : Int := xorU (w64 (w64 a * 2)) (w64 (a.fdiv 9223372036854775808))
def zagF (a : Int) : Int := xorI (i64 (a.fdiv 2)) (i64 (0 - i64 (bitsE .and .u64 a 1)))
def zigR (a : Int) : Int := bif decide (a ≥ 0) then w64 (w64 a * 2) else w64 (w64 (w64 (0 - w64 a) * 2) - 1)
theorem e13 (a : Int) : ev tell0 noTL 2 13 [dI a] = some (dU (zigF a)) := by kernel_rfl
theorem e15 (a : Int) : ev tell0 noTL 2 15 [dU a] = some (dI (zagF a)) := by kernel_rfl
theorem e14 (a : Int) : ev tell0 noTL 2 14 [dI a] = bif decide (a ≥ 0) then some (dU (w64 (w64 a * 2))) else some (dU (w64 (w64 (w64 (0 - w64 a) * 2) - 1))) := by kernel_rfl
theorem refZig_sound (a : Int) : Snd 14 [dI a] (dU (zigR a)) := by
  refine snd_of (tell0_ok _) (noTL_ok _ _) ((e14 a).trans ?_)
  unfold zigR
  cases decide (a ≥ 0) <;> rfl

theorem xorU_eq (x y : Int) : xorU x y = w64 ((BitVec.ofInt 64 x ^^^ BitVec.ofInt 64 y).toNat : Int) := rfl
theorem xorI_eq (x y : Int) : xorI x y = i64 ((BitVec.ofInt 64 x ^^^ BitVec.ofInt 64 y).toNat : Int) := rfl

theorem xor_zero (x : Int) : ((BitVec.ofInt 64 x ^^^ BitVec.ofInt 64 0).toNat : Int) = x % 18446744073709551616 := by
  rw [show BitVec.ofInt 64 0 = 0#64 by decide, BitVec.xor_zero, BitVec.toNat_ofInt]
  omega
theorem xor_ones (x : Int) : ((BitVec.ofInt 64 x ^^^ BitVec.allOnes 64).toNat : Int) = 18446744073709551615 - x % 18446744073709551616 := by
  rw [BitVec.xor_allOnes, BitVec.toNat_not, BitVec.toNat_ofInt]
  omega

theorem zigF_eq {a : Int} (h : okI a) : zigF a = if a < 0 then -2 * a - 1 else 2 * a := by
  unfold okI at h
  unfold zigF
  rw [xorU_eq]
  by_cases h0 : a < 0
  · rw [if_pos h0, show w64 (a.fdiv 9223372036854775808) = 18446744073709551615 by rw [wu, Int.fdiv_eq_ediv_of_nonneg _ (by omega)]; omega,
      show BitVec.ofInt 64 18446744073709551615 = BitVec.allOnes 64 by decide, xor_ones, wu, wu, wu]
    omega
  · rw [if_neg h0, show w64 (a.fdiv 9223372036854775808) = 0 by rw [wu, Int.fdiv_eq_ediv_of_nonneg _ (by omega)]; omega, xor_zero, wu, wu, wu]
    omega

theorem low1_eq {x : Int} (h : 0 ≤ x) (h2 : x < 18446744073709551616) : bitsE .and .u64 x 1 = x % 2 := by
  unfold bitsE
  simp only
  rw [show IntKind.u64.wrap ((BitVec.ofInt IntKind.u64.bits x &&& BitVec.ofInt IntKind.u64.bits 1).toNat : Int) = w64 ((BitVec.ofInt 64 x &&& BitVec.ofInt 64 1).toNat : Int) from rfl, BitVec.toNat_and, BitVec.toNat_ofInt,
    show (BitVec.ofInt 64 1).toNat = 2 ^ 1 - 1 by decide, Nat.and_two_pow_sub_one_eq_mod, wu]
  omega

theorem zagF_eq {a : Int} (h : 0 ≤ a) (h2 : a < 18446744073709551616) : zagF a = if a % 2 = 0 then a / 2 else -(a / 2) - 1 := by
  unfold zagF
  rw [xorI_eq, low1_eq h h2, Int.fdiv_eq_ediv_of_nonneg _ (by omega)]
  by_cases h0 : a % 2 = 0
  · rw [if_pos h0, h0, show i64 (0 - i64 0) = 0 by rw [wi, wi]; omega, xor_zero, wi, wi]
    omega
  · rw [if_neg h0, show a % 2 = 1 by omega, show i64 (0 - i64 1) = -1 by rw [wi, wi]; omega, show BitVec.ofInt 64 (-1) = BitVec.allOnes 64 by decide, xor_ones, wi, wi]
    omega

theorem zigR_eq {a : Int} (h : okI a) : zigR a = if a < 0 then -2 * a - 1 else 2 * a := by
  unfold okI at h
  unfold zigR
  by_cases h0 : a < 0
  · rw [decide_eq_false (by omega), if_pos h0, cond_false, wu, wu, wu, wu]; omega
  · rw [decide_eq_true (by omega), if_neg h0, cond_true, wu, wu]; omega

def pU1 (f : Int → D Pl) : List (D Pl) → Option (Bool × D Pl)
  | [.int .u64 c] => some (true, f c)
  | _ => none
theorem pU1_ok {g : FuncId} {f : Int → D Pl} (hf : ∀ c, Snd g [dU c] (f c)) : ∀ ds b d, pU1 f ds = some (b, d) → b = true → Snd g ds d := by
  intro ds b d h hb
  unfold pU1 at h
  split at h
  · simp only [Option.some.injEq, Prod.mk.injEq] at h; obtain ⟨_, rfl⟩ := h; exact hf _
  · simp at h

def tZ (R : Eng.Told Pl) : Eng.Told Pl := tell 13 (pI1 fun a => dU (zigF a)) (tell 14 (pI1 fun a => dU (zigR a)) (tell 15 (pU1 fun a => dI (zagF a)) R))
theorem tZ_ok {R : Eng.Told Pl} (h : TOk R) : TOk (tZ R) :=
  tell_ok (pI1_ok fun a => snd_of (tell0_ok _) (noTL_ok _ _) (e13 a)) (tell_ok (pI1_ok refZig_sound) (tell_ok (pU1_ok fun a => snd_of (tell0_ok _) (noTL_ok _ _) (e15 a)) h))

theorem e4 (a m : Int) : ev (tAwake (tZ tell0)) noTL 1 4 [dI a, dU m] = bif (zigF a == zigR a) == true then (bif (zagF (zigF a) == a) == true then (bif (zigF (zagF m) == m) == true then yes else no) else no) else no := by kernel_rfl

theorem zigs_sound (a m : Int) : Snd 4 [dI a, dU m] (.bool true) := by
  refine SoundAt.rooms fun hroom => snd_of (tAwake_ok (tZ_ok (tell0_ok _))) (noTL_ok _ _) ((e4 a m).trans ?_)
  have ha : okI a := okI_room hroom (by simp)
  have hm : 0 ≤ m ∧ m < 18446744073709551616 := by
    have h : inR .u64 m = true := hroom (dU m) (by simp)
    simp only [inR, Bool.and_eq_true, decide_eq_true_eq] at h
    have h1 : (0 : Int) ≤ m := h.1
    have h2 : m ≤ 18446744073709551615 := h.2
    omega
  have z1 : zigF a = zigR a := by rw [zigF_eq ha, zigR_eq ha]
  have z2 : zagF (zigF a) = a := by
    have e := zigF_eq ha
    unfold okI at ha
    by_cases h0 : a < 0
    · rw [if_pos h0] at e
      rw [e, zagF_eq (by omega) (by omega), if_neg (by omega)]; omega
    · rw [if_neg h0] at e
      rw [e, zagF_eq (by omega) (by omega), if_pos (by omega)]; omega
  have z3 : zigF (zagF m) = m := by
    rw [zagF_eq hm.1 hm.2]
    by_cases h0 : m % 2 = 0
    · rw [if_pos h0, zigF_eq (by unfold okI; omega), if_neg (by omega)]; omega
    · rw [if_neg h0, zigF_eq (by unfold okI; omega), if_pos (by omega)]; omega
  rw [← z1, z2, z3]
  simp only [beq_self_eq_true, cond_true]
  rfl

end Go.Proofs.YtondgbiamadehaaDoor
