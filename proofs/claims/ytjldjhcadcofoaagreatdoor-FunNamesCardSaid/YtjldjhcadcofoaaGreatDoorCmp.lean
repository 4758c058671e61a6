/-
  COMPARING TEXTS: the library's strings.Compare; it is an order.
-/
import Derived.Test.YtjldjhcadcofoaaGreatDoorFind
import Derived.Lib.Bytealg
namespace Go.Proofs.YtjldjhcadcofoaaGreatDoor
open Go.Eng

set_option maxRecDepth 100000

theorem cmp_vals : ∀ a b : List UInt8, Lib.compareBytes a b = -1 ∨ Lib.compareBytes a b = 0 ∨ Lib.compareBytes a b = 1
  | [], [] => by simp [Lib.compareBytes]
  | [], _ :: _ => by simp [Lib.compareBytes]
  | _ :: _, [] => by simp [Lib.compareBytes]
  | a :: xs, b :: ys => by
    unfold Lib.compareBytes
    split
    · exact .inl rfl
    · split
      · exact .inr (.inr rfl)
      · exact cmp_vals xs ys
theorem cmp_zero : ∀ a b : List UInt8, Lib.compareBytes a b = 0 ↔ a = b
  | [], [] => by simp [Lib.compareBytes]
  | [], _ :: _ => by simp [Lib.compareBytes]
  | _ :: _, [] => by simp [Lib.compareBytes]
  | a :: xs, b :: ys => by
    have ih := cmp_zero xs ys
    unfold Lib.compareBytes
    by_cases h1 : a < b
    · have : a ≠ b := by rintro rfl; exact absurd h1 (UInt8.lt_irrefl a)
      simp [h1, this]
    · by_cases h2 : b < a
      · have : a ≠ b := by rintro rfl; exact absurd h2 (UInt8.lt_irrefl a)
        simp [h1, h2, this]
      · have : a = b := by
          have h1 := UInt8.not_lt.1 h1
          have h2 := UInt8.not_lt.1 h2
          exact UInt8.le_antisymm h2 h1
        subst this
        simp [ih]
theorem cmp_trans : ∀ a b c : List UInt8, Lib.compareBytes a b < 0 → Lib.compareBytes b c < 0 → Lib.compareBytes a c < 0
  | [], [], _ => by simp [Lib.compareBytes]
  | [], _ :: _, [] => by simp [Lib.compareBytes]
  | [], _ :: _, _ :: _ => by simp [Lib.compareBytes]
  | _ :: _, [], _ => by simp [Lib.compareBytes]
  | _ :: _, _ :: _, [] => by simp [Lib.compareBytes]
  | a :: xs, b :: ys, c :: zs => by
    have ih := cmp_trans xs ys zs
    intro h1 h2
    unfold Lib.compareBytes at h1 h2 ⊢
    by_cases hab : a < b
    · by_cases hbc : b < c
      · simp [UInt8.lt_trans hab hbc]
      · rw [if_neg hbc] at h2
        by_cases hcb : c < b
        · simp [hcb] at h2
        · have : b = c := UInt8.le_antisymm (UInt8.not_lt.1 hcb) (UInt8.not_lt.1 hbc)
          subst this
          simp [hab]
    · rw [if_neg hab] at h1
      by_cases hba : b < a
      · simp [hba] at h1
      · have : a = b := UInt8.le_antisymm (UInt8.not_lt.1 hba) (UInt8.not_lt.1 hab)
        subst this
        rw [if_neg hab] at h1
        by_cases hbc : a < c
        · simp [hbc]
        · rw [if_neg hbc] at h2 ⊢
          by_cases hcb : c < a
          · simp [hcb] at h2
          · rw [if_neg hcb] at h2 ⊢
            exact ih h1 h2

theorem cmpstr_sound (a b : Str) : Snd 100 [.str a, .str b] (dI (Lib.compareBytes a b)) := by
  intro w av vs hg _ hs hr
  obtain ⟨v0, v1, rfl⟩ : ∃ v0 v1, vs = #[v0, v1] := by
    obtain ⟨l⟩ := vs
    match l, hs with
    | [a, b], _ => exact ⟨a, b, rfl⟩
  have h0 := hr 0 _ _ rfl rfl
  have h1 := hr 1 _ _ rfl rfl
  cases h1 with
  | str b' _ hb' hlb =>
  cases h0 with
  | str a' _ ha' hla =>
  subst hb' ha'
  refine .inr ⟨.int .i64 (Lib.compareBytes a'.data.toList b'.data.toList), w, ?_, ?_, BelowD.refl _ _, trivial⟩
  · show (callFunc 100 _).run Tryz.prog w = _
    rw [run_callFunc_extern Tryz.func100 (by kernel_rfl) (by kernel_rfl) (by kernel_rfl) (e := Extern.BytealgCompare.compare) (by kernel_rfl), Lib.run_compareString]; rfl
  · refine .int _ _ ?_
    rcases cmp_vals a'.data.toList b'.data.toList with h | h | h <;> rw [h] <;> rfl

theorem pCs_ok : ∀ ds b d, pCmpV Lib.compareBytes ds = some (b, d) → b = true → Snd 100 ds d := by
  intro ds b d h hb
  unfold pCmpV at h
  split at h
  · simp only [Option.some.injEq, Prod.mk.injEq] at h; obtain ⟨_, rfl⟩ := h; exact cmpstr_sound _ _
  · simp at h
theorem eCompare (C : Str → Str → Int) (a b : Str) : evF (tell 100 (pCmpV C) tell0) noTL noL 5 Tryz.f34 [.str a, .str b] = some (dI (C a b)) := by kernel_rfl
theorem compare_sound (a b : Str) : Snd 34 [.str a, .str b] (dI (Lib.compareBytes a b)) :=
  snd_fn (n := 5) (tell_ok pCs_ok (tell0_ok _)) (noTL_ok _ _) (fn := Tryz.f34) (by kernel_rfl) (loops_of (f := 34) (fn := Tryz.f34) (by kernel_rfl) (loops_0 (by kernel_rfl))) (eCompare Lib.compareBytes a b)
theorem pCmp_ok : ∀ ds b d, pCmpV Lib.compareBytes ds = some (b, d) → b = true → Snd 34 ds d := by
  intro ds b d h hb
  unfold pCmpV at h
  split at h
  · simp only [Option.some.injEq, Prod.mk.injEq] at h; obtain ⟨_, rfl⟩ := h; exact compare_sound _ _
  · simp at h
end Go.Proofs.YtjldjhcadcofoaaGreatDoor
