/-
  THE ENGINE, PART G: CONVERSIONS, LENGTHS, LITERALS, SLICES.
-/
import Derived.Test.YtlfohmdclcdejaaDoorEngF
namespace Go.Eng
open Go.RowKit

variable {α : Type}

section
variable {X : Ctx α} (hX : XOk X) {g : Gh} {tm : List (D α)} {hs : Obs α} {a : Act} {w : World} (hS : Sim X g tm hs a w)

theorem inR_len {n : Nat} (h : n ≤ big) : inR .i64 n = true := by
  unfold big at h
  simp only [inR, Bool.and_eq_true, decide_eq_true_eq]
  exact ⟨by show (-9223372036854775808 : Int) ≤ _; omega, by show _ ≤ (9223372036854775807 : Int); omega⟩

theorem bys_pos_len {n b : Nat} (hb : 0 < b) (h : n * b ≤ big) : n ≤ big := Nat.le_trans (Nat.le_mul_of_pos_right _ hb) h

/-- What a slice reads as: its cells, one behind the other. -/
theorem size_len (s : ByteArray) : s.size = s.data.toList.length := Array.length_toList.symm

include hX in
theorem lenD_sound (t : TypeId) (x : D α) (vx : Value) (ty : TypeId) (hx : RD X.C (cxOf g hs w) vx x) (r : Res α) (hr : lenD X hs t x = r) (hok : r.ok = true)
    (hS : Sim X g tm hs a w) :
    ∃ v, (Builtin.len_ #[t] ty #[vx]).run X.P w = .ok v w ∧ RD X.C (cxOf g hs w) v r.d ∧ r.ch = none := by
  unfold lenD at hr
  split at hr
  · rename_i l hu
    cases hx with | str s _ hs' hl =>
    subst hr
    refine ⟨goInt s.size, by simp [Builtin.len_, run_underlying hu], ?_, rfl⟩
    rw [size_len, hs']
    exact .int _ _ (inR_len hl)
  · rename_i hu
    cases hx
    subst hr
    exact ⟨goInt 0, by simp [Builtin.len_, run_underlying hu], .int _ _ (by decide), rfl⟩
  · rename_i p k hu
    subst hr
    cases hx with
    | pl0 a' c _ _ hl hk =>
      refine ⟨goInt 0, by simp [Builtin.len_, run_underlying hu], ?_, rfl⟩
      have : (X.C.len p : Int) = 0 := by omega
      rw [Res.v, this]
      exact .int _ _ (by decide)
    | pl b off n c _ _ vs hn hc hbg hk hav hcell h1c hrd =>
      subst hn
      exact ⟨goInt (X.C.len p), by simp [Builtin.len_, run_underlying hu], .int _ _ (inR_len (bys_pos_len (hX.pay.bpos p) hbg)), rfl⟩
  · rename_i o hu
    split at hr
    · rename_i fz p hl
      subst hr
      have har := arr_of (g := g) (w := w) hl
      have hob := hS.obs o _ hl
      cases hx with
      | arrO _ b p' n c ho hn hc hz =>
        rw [har] at ho
        simp only [Option.some.injEq, Prod.mk.injEq] at ho
        obtain ⟨hrho, rfl⟩ := ho
        rw [hrho] at hob
        obtain ⟨cells, T, hh, hsz, hbg, _⟩ := hob
        subst hn
        exact ⟨goInt (X.C.len p), by simp [Builtin.len_, run_underlying hu], .int _ _ (inR_len (bys_pos_len (hX.pay.bpos p) hbg)), rfl⟩
      | arrN _ p' a' ho hn =>
        rw [har] at ho
        simp only [Option.some.injEq, Prod.mk.injEq] at ho
        obtain ⟨hrho, rfl⟩ := ho
        refine ⟨goInt 0, by simp [Builtin.len_, run_underlying hu], ?_, rfl⟩
        have : (X.C.len p : Int) = 0 := by omega
        rw [Res.v, this]
        exact .int _ _ (by decide)
    · subst hr; simp [Res.no] at hok
  · rename_i n e hu
    subst hr
    exact ⟨goInt n, by simp [Builtin.len_, run_underlying hu], .int _ _ hok, rfl⟩
  · subst hr; simp [Res.no] at hok

/-- minimum and maximum of integers -/
theorem minD_sound {C : Pay α} {cx : Cx α} (P : Program) (w : World) (gt : Bool) : ∀ (l : List (D α)) (vs : List Value) (x : D α) (vx : Value) (d : D α), RD C cx vx x → vs.length = l.length →
    (∀ (i : Nat) v c, vs[i]? = some v → l[i]? = some c → RD C cx v c) → minD gt x l = some d →
    ∃ v, (vs.foldlM (if gt then Builtin.max2 else Builtin.min2) vx).run P w = .ok v w ∧ RD C cx v d
  | [], vs, x, vx, d, hx, hlen, _, h => by
    have : vs = [] := List.eq_nil_of_length_eq_zero (by simpa using hlen)
    subst this
    simp only [minD, Option.some.injEq] at h
    subst h
    exact ⟨vx, by simp, hx⟩
  | y :: r, vs, x, vx, d, hx, hlen, hr, h => by
    cases vs with
    | nil => simp at hlen
    | cons vy vr =>
    have hy := hr 0 vy y rfl rfl
    unfold minD at h
    split at h
    · rename_i heq
      simp at heq
    · rename_i k n k' m r' heq
      simp only [List.cons.injEq] at heq
      obtain ⟨rfl, rfl⟩ := heq
      cases hx with | int _ _ hn =>
      cases hy with | int _ _ hm =>
      cases hk : k == k' with
      | false => simp [hk] at h
      | true =>
      obtain rfl := beq_iff_eq.1 hk
      simp only [hk, cond_true] at h
      have ih := minD_sound P w gt r vr _ (.int k (bif (bif gt then decide (m > n) else decide (m < n)) then m else n)) d
        (.int _ _ (by cases (bif gt then decide (m > n) else decide (m < n)) <;> assumption)) (by simpa using hlen) (fun i v c hv hc => hr (i + 1) v c (by simpa using hv) (by simpa using hc)) h
      obtain ⟨v, h1, h2⟩ := ih
      refine ⟨v, ?_, h2⟩
      simp only [List.foldlM_cons, Sem.run_bind]
      cases gt
      · simp only [Bool.false_eq_true, if_false, cond_false] at h1 ⊢
        have : (Builtin.min2 (.int k n) (.int k m)).run P w = .ok (.int k (bif decide (m < n) then m else n)) w := by
          simp only [Builtin.min2, Sem.run_pure]
          by_cases hmn : m < n <;> simp [hmn]
        rw [this]; exact h1
      · simp only [if_true, cond_true] at h1 ⊢
        have : (Builtin.max2 (.int k n) (.int k m)).run P w = .ok (.int k (bif decide (m > n) then m else n)) w := by
          simp only [Builtin.max2, Sem.run_pure]
          by_cases hmn : m > n <;> simp [hmn]
        rw [this]; exact h1
    · simp at h

/-- Below: a new block. -/
theorem below_alloc (w : World) (o : Obj) : Below w.heap.size w (w.alloc o) := (Below.refl _ _).alloc (Nat.le_refl _) o

end
end Go.Eng
