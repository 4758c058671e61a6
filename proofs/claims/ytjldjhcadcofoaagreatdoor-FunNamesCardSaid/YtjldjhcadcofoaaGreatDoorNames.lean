/-
  EVERY FUNCTION, AND WHAT IT ANSWERS, by the program and by the document.
-/
import Derived.Test.YtjldjhcadcofoaaGreatDoorAwake
namespace Go.Proofs.YtjldjhcadcofoaaGreatDoor
open Go.Eng

set_option maxRecDepth 100000

-- where a name stands

def findF (s : Str) : Nat → Nat → Option Nat
  | 0, _ => none
  | f + 1, i => bif (sg i).name == s then some i else findF s f (i + 1)
def findI (s : Str) : Option Nat := findF s 42 0
theorem findF_some {s : Str} : ∀ {f i k : Nat}, findF s f i = some k → i ≤ k ∧ k < i + f ∧ (sg k).name = s
  | 0, i, k, h => by simp [findF] at h
  | f + 1, i, k, h => by
    unfold findF at h
    cases hc : (sg i).name == s with
    | true =>
      rw [hc] at h
      simp only [cond_true, Option.some.injEq] at h
      subst h
      exact ⟨Nat.le_refl _, by omega, by simpa using hc⟩
    | false =>
      rw [hc] at h
      obtain ⟨h1, h2, h3⟩ := findF_some (s := s) (f := f) (i := i + 1) (k := k) h
      exact ⟨by omega, by omega, h3⟩
theorem findF_none {s : Str} : ∀ {f i : Nat}, findF s f i = none → ∀ k, i ≤ k → k < i + f → (sg k).name ≠ s
  | 0, i, h => by intro k h1 h2; omega
  | f + 1, i, h => by
    intro k h1 h2
    unfold findF at h
    cases hc : (sg i).name == s with
    | true => rw [hc] at h; simp at h
    | false =>
      rw [hc] at h
      by_cases hk : k = i
      · subst hk; simpa using hc
      · exact findF_none (s := s) (f := f) (i := i + 1) h k (by omega) (by omega)
theorem linK_eq (s : Str) : ∀ f i, linK s f i = match findF s f i with
    | some k => some (.pl (pStrs (rowL (sg k))) .any)
    | none => some .nilS
  | 0, i => rfl
  | f + 1, i => by
    unfold linK findF
    cases (sg i).name == s with
    | true => rfl
    | false => exact linK_eq s f (i + 1)

-- the search by halves finds it

theorem bsK_eq {β : Type} (C : Str → Str → Int) (s : Str) (k : Nat → β) (r : Nat) (h1 : ∀ i, i < r → C (sg i).name s < 0) (h2 : ∀ i, r ≤ i → i < 42 → ¬ C (sg i).name s < 0) :
    ∀ f i j, i ≤ r → r ≤ j → j ≤ 42 → j - i < 2 ^ f → bsK C s k f i j = k r
  | 0, i, j, hi, hj, _, hf => by
    have : i = r := by simp at hf; omega
    rw [bsK, this]
  | f + 1, i, j, hi, hj, hjm, hf => by
    unfold bsK
    rw [Nat.pow_succ] at hf
    by_cases hij : i < j
    · rw [show Nat.blt i j = true from by rw [Nat.blt_eq]; exact hij, cond_true]
      by_cases hr : (i + j) / 2 < r
      · rw [decide_eq_true (h1 _ hr), cond_true]
        exact bsK_eq C s k r h1 h2 f _ _ (by omega) hj hjm (by omega)
      · rw [decide_eq_false (h2 _ (by omega) (by omega)), cond_false]
        exact bsK_eq C s k r h1 h2 f _ _ hi (by omega) (by omega) (by omega)
    · rw [show Nat.blt i j = false from by rw [Bool.eq_false_iff, ne_eq, Nat.blt_eq]; exact hij, cond_false]
      rw [show i = r by omega]
theorem sorted_all : ((List.range 42).all fun j => (List.range j).all fun i => decide (Lib.compareBytes (sg i).name (sg j).name < 0)) = true := by decide +kernel
theorem sorted {i j : Nat} (h : i < j) (hj : j < 42) : Lib.compareBytes (sg i).name (sg j).name < 0 := by
  have := List.all_eq_true.1 (List.all_eq_true.1 sorted_all j (by simpa using hj)) i (by simpa using h)
  simpa using this

def FM (s : Str) : SigR × Bool := match findI s with
  | some i => (sg i, true)
  | none => (⟨[], [], []⟩, false)
theorem find_eq (s : Str) : bsK Lib.compareBytes s (endF Lib.compareBytes s) 7 0 42 = some (.tup [.agg [.str (FM s).1.name, .str (FM s).1.of', .str (FM s).1.to], .bool (FM s).2]) := by
  obtain ⟨r, hr42, h1, h2⟩ : ∃ r, r ≤ 42 ∧ (∀ i, i < r → Lib.compareBytes (sg i).name s < 0) ∧ ∀ i, r ≤ i → i < 42 → ¬ Lib.compareBytes (sg i).name s < 0 := by
    refine ⟨ff (fun i => decide (Lib.compareBytes (sg i).name s < 0)) 42, ?_⟩
    rcases ff_spec 42 (fun i => decide (Lib.compareBytes (sg i).name s < 0)) with ⟨e, h⟩ | ⟨e, hf, h⟩
    · rw [e]
      exact ⟨Nat.le_refl _, fun i hi => by simpa using h i hi, fun i h1 h2 => by omega⟩
    · refine ⟨by omega, fun i hi => by simpa using h i hi, fun i h1 h2 hc => ?_⟩
      have hf := of_decide_eq_false hf
      rcases Nat.lt_or_ge (ff (fun i => decide (Lib.compareBytes (sg i).name s < 0)) 42) i with hlt | hge
      · exact hf (cmp_trans _ _ _ (sorted hlt h2) hc)
      · rw [show i = ff (fun i => decide (Lib.compareBytes (sg i).name s < 0)) 42 by omega] at hc
        exact hf hc
  rw [bsK_eq _ s _ r h1 h2 7 0 42 (by omega) hr42 (Nat.le_refl _) (by decide)]
  unfold FM
  cases hf : findI s with
  | some i =>
    obtain ⟨_, hi, hn⟩ := findF_some hf
    have hz : Lib.compareBytes (sg i).name s = 0 := (cmp_zero _ _).2 hn
    have hir : i = r := by
      rcases Nat.lt_trichotomy i r with h | h | h
      · have := h1 i h; omega
      · exact h
      · have := sorted h (show i < 42 by omega)
        rw [hn] at this
        exact absurd this (h2 r (Nat.le_refl _) (by omega))
    subst hir
    unfold endF
    rw [show Nat.blt i 42 = true from by rw [Nat.blt_eq]; omega, cond_true, hz]
    rfl
  | none =>
    unfold endF
    by_cases hr : r < 42
    · rw [show Nat.blt r 42 = true from by rw [Nat.blt_eq]; exact hr, cond_true]
      have hne := findF_none hf r (by omega) (by omega)
      have : (Lib.compareBytes (sg r).name s == 0) = false := by
        rw [beq_eq_false_iff_ne]
        exact fun h => hne ((cmp_zero _ _).1 h)
      rw [this]
      rfl
    · rw [show Nat.blt r 42 = false from by rw [Bool.eq_false_iff, ne_eq, Nat.blt_eq]; exact hr]
      rfl
theorem find_sound (s : Str) : Snd 15 [.str s] (.tup [.agg [.str (FM s).1.name, .str (FM s).1.of', .str (FM s).1.to], .bool (FM s).2]) :=
  snd_fn (n := 12) (tell_ok pCmp_ok (tell0_ok _)) (noTL_ok _ _) (fn := Tryz.f15) (by kernel_rfl) (fun _ _ b _ => noL_ok b) ((eFind Lib.compareBytes s).trans (find_eq s))

-- what a function answers

section
variable (FM : Str → SigR × Bool) (TM : Str → Int × Int) (OK : Str → Bool)
def pFn : List (D Pl) → Option (Bool × D Pl)
  | [.str s] => some (true, .tup [.agg [.str (FM s).1.name, .str (FM s).1.of', .str (FM s).1.to], .bool (FM s).2])
  | _ => none
noncomputable def tRs : Eng.Told Pl := tell 15 (pFn FM) (tell 35 (pTp TM OK) tell0)
end
theorem pFn_ok : ∀ ds b d, pFn FM ds = some (b, d) → b = true → Snd 15 ds d := by
  intro ds b d h hb
  unfold pFn at h
  split at h
  · simp only [Option.some.injEq, Prod.mk.injEq] at h
    obtain ⟨_, rfl⟩ := h
    exact find_sound _
  · simp at h
theorem eResult (s : Str) (FM : Str → SigR × Bool) (TM : Str → Int × Int) (OK : Str → Bool) : evF (tRs FM TM OK) noTL noL 3 Tryz.f6 [.str s] =
    bif !(FM s).2 then some (.tup [.agg [dI 0, dI 0], dI 9]) else ck_ (OK (FM s).1.to) (some (.tup [.agg [dI (TM (FM s).1.to).1, dI (TM (FM s).1.to).2], dI 0])) := by kernel_rfl
def RM (s : Str) : Int × Int × Int := match findI s with
  | some i => ((TM0 (sg i).to).1, (TM0 (sg i).to).2, 0)
  | none => (0, 0, 9)
theorem ok_all : ((List.range 42).all fun i => OK0 (sg i).to) = true := by kernel_rfl
theorem ok_to {i : Nat} (h : i < 42) : OK0 (sg i).to = true := List.all_eq_true.1 ok_all i (by simpa using h)
theorem result_sound (s : Str) : Snd 6 [.str s] (.tup [.agg [dI (RM s).1, dI (RM s).2.1], dI (RM s).2.2]) := by
  refine snd_fn (n := 3) (tell_ok pFn_ok (tell_ok typ_ok (tell0_ok _))) (noTL_ok _ _) (fn := Tryz.f6) (by kernel_rfl) (fun _ _ b _ => noL_ok b) ((eResult s FM TM0 OK0).trans ?_)
  unfold RM FM
  cases hf : findI s with
  | none => rfl
  | some i =>
    obtain ⟨_, hi, _⟩ := findF_some hf
    simp only [Bool.not_true, cond_false]
    rw [ck_t (ok_to (by omega))]
end Go.Proofs.YtjldjhcadcofoaaGreatDoor
