/-
  THE ORDER OF TEXTS, byte by byte: it is one.
-/
import Derived.Test.YtgngobcmfflcpaaDoorLib
namespace Go.Proofs.YtgngobcmfflcpaaDoor
open Go.Eng

def ltS (a b : Str) : Bool := Op.bytesLess a b
theorem ltS_cons (a b : UInt8) (x y : Str) : ltS (a :: x) (b :: y) = (decide (a < b) || (a == b && ltS x y)) := by unfold ltS; rw [Op.bytesLess]
theorem ltS_nil (x : Str) : ltS x [] = false := by cases x <;> rfl
theorem ltS_nil_cons (b : UInt8) (y : Str) : ltS [] (b :: y) = true := rfl

theorem u8_tri {a b : UInt8} (h1 : ¬ a < b) (h2 : ¬ b < a) : a = b := by
  rw [UInt8.lt_iff_toNat_lt] at h1 h2
  exact UInt8.toNat_inj.1 (by omega)
theorem u8_trans {a b c : UInt8} (h1 : a < b) (h2 : b < c) : a < c := by
  rw [UInt8.lt_iff_toNat_lt] at *; omega
theorem u8_irr (a : UInt8) : ¬ a < a := by rw [UInt8.lt_iff_toNat_lt]; omega

theorem ltS_irr : ∀ a : Str, ltS a a = false
  | [] => rfl
  | a :: x => by rw [ltS_cons, ltS_irr x]; simp [u8_irr]

theorem ltS_trans : ∀ {a b c : Str}, ltS a b = true → ltS b c = true → ltS a c = true
  | _, [], _, h, _ => by rw [ltS_nil] at h; simp at h
  | _, _ :: _, [], _, h => by rw [ltS_nil] at h; simp at h
  | [], _ :: _, _ :: _, _, _ => rfl
  | a :: x, b :: y, c :: z, h1, h2 => by
    rw [ltS_cons, Bool.or_eq_true, Bool.and_eq_true, decide_eq_true_eq, beq_iff_eq] at *
    rcases h1 with h1 | ⟨rfl, h1⟩ <;> rcases h2 with h2 | ⟨rfl, h2⟩
    · exact .inl (u8_trans h1 h2)
    · exact .inl h1
    · exact .inl h2
    · exact .inr ⟨rfl, ltS_trans h1 h2⟩

theorem ltS_tri : ∀ {a b : Str}, ltS a b = false → ltS b a = false → a = b
  | [], [], _, _ => rfl
  | [], _ :: _, h, _ => by simp [ltS_nil_cons] at h
  | _ :: _, [], _, h => by simp [ltS_nil_cons] at h
  | a :: x, b :: y, h1, h2 => by
    rw [ltS_cons, Bool.or_eq_false_iff, decide_eq_false_iff_not] at h1 h2
    obtain rfl := u8_tri h1.1 h2.1
    simp only [beq_self_eq_true, Bool.true_and] at h1 h2
    rw [ltS_tri h1.2 h2.2]

theorem ltS_asymm {a b : Str} (h : ltS a b = true) : ltS b a = false := by
  cases h1 : ltS b a
  · rfl
  · have := ltS_trans h h1; rw [ltS_irr] at this; simp at this

end Go.Proofs.YtgngobcmfflcpaaDoor
