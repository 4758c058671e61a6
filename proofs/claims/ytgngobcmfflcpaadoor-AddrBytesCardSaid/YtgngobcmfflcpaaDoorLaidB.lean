/-
  BYTES AS AN ARGUMENT; the statement at any object whose number is one of 32 bits.
-/
import Derived.Test.YtgngobcmfflcpaaDoorBytes
import Derived.Test.YtgngobcmfflcpaaDoorLaid
namespace Go.Proofs.YtgngobcmfflcpaaDoor
open Go.Eng Go.RowKit Go.ChangeShapes Go.WideShapes

set_option maxRecDepth 100000

theorem u8_back {i : Int} (h : inR .u8 i = true) : ∃ x : UInt8, i = Int.ofNat x.toNat := by
  simp only [inR, Bool.and_eq_true, decide_eq_true_eq] at h
  have h1 : 0 ≤ i := h.1
  have h2 : i ≤ 255 := h.2
  refine ⟨UInt8.ofNat i.toNat, ?_⟩
  rw [UInt8.toNat_ofNat', Nat.mod_eq_of_lt (by omega)]
  show i = ((i.toNat : Nat) : Int)
  omega

theorem rd_bytes {H : Type} {enc : TypeId × Value → H} {W : World} (n : Nat) : RdAt enc Tryd.prog emp W n 22 fun ds => ∃ l : List UInt8, l.length ≤ reachBytes ∧ ds = [.pl (pBytes l) .any] := by
  cases n with
  | zero => exact rd_zero
  | succ n =>
    refine rd_slice .bytes (by kernel_rfl) (by kernel_rfl) (by kernel_rfl) ((rd_int Tryd.underlying5 n).mono ?_)
    rintro ds ⟨i, hi, rfl⟩
    obtain ⟨x, rfl⟩ := u8_back hi
    exact ⟨x, rfl⟩

theorem bytes_any (l : List UInt8) (a : KeyR) : Snd 3 [.pl (pBytes l) .any, .agg (cK a)] (.bool true) := by
  refine SoundAt.rooms fun hroom => ?_
  have h := hroom (.agg (cK a)) (by simp) (.int .u32 a.n) (by simp [cK, cAd])
  have h : inR .u32 a.n = true := h
  simp only [inR, Bool.and_eq_true, decide_eq_true_eq] at h
  exact bytes_sound l a h.1 h.2
end Go.Proofs.YtgngobcmfflcpaaDoor
