/-
  THE ORDER OF OBJECTS IS ONE: the law on plain values, and that the program's function answers true.
-/
import Derived.Test.YtgngobcmfflcpaaDoorOrder
namespace Go.Proofs.YtgngobcmfflcpaaDoor
open Go.Eng

/-- A comparison: turned it has the other sign; what isn't above goes on. -/
structure Pre {K : Type} (r : K → K → Int) : Prop where
  anti : ∀ a b, r b a = - r a b
  le : ∀ a b c, r a b ≤ 0 → r b c ≤ 0 → r a c ≤ 0

theorem cmpS_cases (a b : Str) : (ltS a b = true ∧ ltS b a = false ∧ a ≠ b ∧ cmpS a b = -1) ∨ (a = b ∧ cmpS a b = 0) ∨ (ltS b a = true ∧ ltS a b = false ∧ a ≠ b ∧ cmpS a b = 1) := by
  unfold cmpS
  cases h : ltS a b
  · cases h2 : ltS b a
    · obtain rfl := ltS_tri h h2
      exact .inr (.inl ⟨rfl, by simp⟩)
    · refine .inr (.inr ⟨rfl, rfl, ?_⟩)
      have hne : a ≠ b := by rintro rfl; rw [ltS_irr] at h2; simp at h2
      exact ⟨hne, by rw [show (a == b) = false from beq_eq_false_iff_ne.2 hne]; rfl⟩
  · refine .inl ⟨rfl, ltS_asymm h, ?_, rfl⟩
    rintro rfl; rw [ltS_irr] at h; simp at h

theorem pre_S : Pre cmpS where
  anti a b := by
    rcases cmpS_cases a b with ⟨h1, h2, h3, h⟩ | ⟨rfl, h⟩ | ⟨h1, h2, h3, h⟩
    · rcases cmpS_cases b a with ⟨k1, _, _, k⟩ | ⟨k1, k⟩ | ⟨k1, _, _, k⟩
      · rw [k1] at h2; simp at h2
      · exact (h3 k1.symm).elim
      · rw [h, k]; rfl
    · rw [h]; rfl
    · rcases cmpS_cases b a with ⟨k1, _, _, k⟩ | ⟨k1, k⟩ | ⟨k1, _, _, k⟩
      · rw [h, k]
      · exact (h3 k1.symm).elim
      · rw [k1] at h2; simp at h2
  le a b c h1 h2 := by
    rcases cmpS_cases a b with ⟨k1, _, _, _⟩ | ⟨rfl, _⟩ | ⟨_, _, _, k⟩
    · rcases cmpS_cases b c with ⟨j1, _, _, _⟩ | ⟨rfl, _⟩ | ⟨_, _, _, j⟩
      · have := ltS_trans k1 j1
        unfold cmpS; rw [this]; simp
      · exact h1
      · rw [j] at h2; simp at h2
    · exact h2
    · rw [k] at h1; simp at h1

theorem cmpI_cases (a b : Int) : (a < b ∧ cmpI a b = -1) ∨ (a = b ∧ cmpI a b = 0) ∨ (b < a ∧ cmpI a b = 1) := by
  unfold cmpI
  by_cases h : a < b
  · exact .inl ⟨h, by simp [h]⟩
  · by_cases h2 : b < a
    · exact .inr (.inr ⟨h2, by simp [h, h2]⟩)
    · exact .inr (.inl ⟨by omega, by simp [h, h2]⟩)

theorem pre_I : Pre cmpI where
  anti a b := by
    rcases cmpI_cases a b with ⟨h1, h⟩ | ⟨h1, h⟩ | ⟨h1, h⟩ <;> rcases cmpI_cases b a with ⟨k1, k⟩ | ⟨k1, k⟩ | ⟨k1, k⟩ <;> rw [h, k] <;> omega
  le a b c h1 h2 := by
    rcases cmpI_cases a b with ⟨h, k⟩ | ⟨h, k⟩ | ⟨h, k⟩ <;> rcases cmpI_cases b c with ⟨j, l⟩ | ⟨j, l⟩ | ⟨j, l⟩ <;> rcases cmpI_cases a c with ⟨m, n⟩ | ⟨m, n⟩ | ⟨m, n⟩ <;> omega

theorem Pre.on {K L : Type} {r : L → L → Int} (h : Pre r) (f : K → L) : Pre fun a b => r (f a) (f b) := ⟨fun a b => h.anti _ _, fun a b c => h.le _ _ _⟩
theorem pre_0 {K : Type} : Pre fun (_ _ : K) => (0 : Int) := ⟨fun _ _ => rfl, fun _ _ _ h _ => h⟩

theorem orI_def (x y : Int) : orI x y = if x = 0 then y else x := by
  unfold orI; by_cases h : x = 0
  · simp [h]
  · rw [show (x != 0) = true from bne_iff_ne.2 h, if_neg h]; rfl

theorem Pre.lex {K : Type} {r s : K → K → Int} (h : Pre r) (g : Pre s) : Pre fun a b => orI (r a b) (s a b) where
  anti a b := by
    show orI (r b a) (s b a) = - orI (r a b) (s a b)
    rw [orI_def, orI_def, h.anti a b, g.anti a b]
    by_cases h0 : r a b = 0 <;> simp [h0]
  le a b c h1 h2 := by
    show orI (r a c) (s a c) ≤ 0
    have h1' : orI (r a b) (s a b) ≤ 0 := h1
    have h2' : orI (r b c) (s b c) ≤ 0 := h2
    rw [orI_def] at *
    have q1 : r a b ≤ 0 := by split at h1' <;> omega
    have q2 : r b c ≤ 0 := by split at h2' <;> omega
    have q3 := h.le a b c q1 q2
    split
    · rename_i h0
      have e1 := h.anti a c
      have e2 := h.anti b c
      have e3 := h.anti a b
      have q4 := h.le c a b (by omega) q1
      have q5 := h.le b c a q2 (by omega)
      rw [if_pos (by omega)] at h1' h2'
      exact g.le a b c h1' h2'
    · exact q3

theorem pre_A : Pre cmpA :=
  (pre_S.on KeyR.ty).lex ((pre_S.on KeyR.name).lex ((pre_I.on KeyR.kind).lex ((pre_I.on KeyR.i).lex ((pre_S.on KeyR.k).lex pre_0))))
theorem pre_K : Pre cmpK := pre_A.lex ((pre_I.on KeyR.n).lex pre_0)

theorem or_less (x y : Int) : decide (orI x y < 0) = bif x != 0 then decide (x < 0) else decide (y < 0) := by
  unfold orI; cases x != 0 <;> rfl
theorem or_ne (x y : Int) : (orI x y != 0) = (x != 0 || y != 0) := by
  rw [orI_def]; by_cases h : x = 0 <;> simp [h]
theorem cmpS_less (a b : Str) : decide (cmpS a b < 0) = ltS a b := by
  rcases cmpS_cases a b with ⟨h1, _, _, h⟩ | ⟨rfl, h⟩ | ⟨_, h1, _, h⟩
  · rw [h, h1]; rfl
  · rw [h, ltS_irr]; rfl
  · rw [h, h1]; rfl
theorem cmpS_ne (a b : Str) : (cmpS a b != 0) = !(a == b) := by
  rcases cmpS_cases a b with ⟨_, _, h1, h⟩ | ⟨rfl, h⟩ | ⟨_, _, h1, h⟩ <;> rw [h]
  · rw [show (a == b) = false from beq_eq_false_iff_ne.2 h1]; rfl
  · simp
  · rw [show (a == b) = false from beq_eq_false_iff_ne.2 h1]; rfl
theorem cmpI_less (a b : Int) : decide (cmpI a b < 0) = decide (a < b) := by
  rcases cmpI_cases a b with ⟨h1, h⟩ | ⟨h1, h⟩ | ⟨h1, h⟩ <;> rw [h] <;> simp <;> omega
theorem cmpI_ne (a b : Int) : (cmpI a b != 0) = (a != b) := by
  rcases cmpI_cases a b with ⟨h1, h⟩ | ⟨h1, h⟩ | ⟨h1, h⟩ <;> rw [h] <;> simp <;> omega

theorem lessA_eq (a b : KeyR) : lessA a b = docA a b := by
  unfold lessA cmpA docA
  simp only [or_less, cmpS_ne, cmpS_less, cmpI_ne, cmpI_less]
  cases h : (a.k == b.k)
  · rfl
  · rw [beq_iff_eq] at h; rw [h, ltS_irr]; rfl

theorem cmpA_ne (a b : KeyR) : (cmpA a b != 0) = !(eqA a b) := by
  unfold cmpA eqA
  simp only [or_ne, cmpS_ne, cmpI_ne]
  simp only [bne]
  cases a.ty == b.ty <;> cases a.name == b.name <;> cases a.kind == b.kind <;> cases a.i == b.i <;> cases a.k == b.k <;> rfl

theorem cmpK_ne (a b : KeyR) : (cmpK a b != 0) = !(eqKy a b) := by
  unfold cmpK eqKy
  simp only [or_ne, cmpA_ne, cmpI_ne]
  simp only [bne]
  cases eqA a b <;> cases a.n == b.n <;> rfl

theorem lessK_eq (a b : KeyR) : lessK a b = docK a b := by
  unfold lessK cmpK docK
  simp only [or_less, cmpA_ne, cmpI_ne, cmpI_less]
  rw [show decide (cmpA a b < 0) = lessA a b from rfl, lessA_eq]
  cases eqA a b
  · rfl
  · cases h1 : a.n != b.n
    · simp at h1; simp [h1]
    · rfl

end Go.Proofs.YtgngobcmfflcpaaDoor
