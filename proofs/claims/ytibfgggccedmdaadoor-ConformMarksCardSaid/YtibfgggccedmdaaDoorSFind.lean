/-
  THE PROGRAM's 'Find': it looks into a map of all attributes.
-/
import Derived.Test.YtibfgggccedmdaaDoorFindA
namespace Go.Proofs.YtibfgggccedmdaaDoor
open Go.Eng

set_option maxRecDepth 100000

def ent (t : Str) (a : AttrR) : KT.C .two × VT.C .attr := ((t, a.name), a)
def allL : List (KT.C .two × VT.C .attr) := l_disk.map (ent a_disk) ++ (l_node.map (ent a_node) ++ (l_note.map (ent a_note) ++ l_rule.map (ent a_rule)))

theorem e_all : ev tell0 noTL 20 36 [] = some (.mr (pMap .two .attr allL)) := by kernel_rfl
theorem all_sound : Snd 36 [] (.mr (pMap .two .attr allL)) := snd_of (tell0_ok _) (noTL_ok _ _) e_all

def tAll : Eng.Told Pl := tell 36 (fun ds => match ds with
  | [] => some (true, .mr (pMap .two .attr allL))
  | _ => none) tell0
theorem tAll_ok : TOk tAll := tell_ok (fun ds b d h hb => by
  split at h
  · simp only [Option.some.injEq, Prod.mk.injEq] at h
    obtain ⟨_, rfl⟩ := h
    exact all_sound
  · simp at h) (tell0_ok _)

theorem e_find (t n : Str) : ev tAll noTL 1 18 [.str t, .str n] = bif !(hasM (k := .two) (v := .attr) allL (t, n)) then some (.tup [.agg (cA aZ), dI 9]) else some (.tup [.agg (cA (getM (k := .two) (v := .attr) allL (t, n))), dI 0]) := by kernel_rfl

theorem ff_succ (p : Nat → Bool) (n : Nat) : ff p (n + 1) = bif p 0 then ff (fun i => p (i + 1)) n + 1 else 0 := rfl

theorem posA_cons (a : AttrR) (r : List AttrR) (n : Str) : posA (a :: r) n = bif a.name == n then 0 else posA r n + 1 := by
  unfold posA
  rw [List.length_cons, ff_succ]
  show (bif !(a.name == n) then _ else _) = _
  cases a.name == n <;> rfl

theorem hasA_cons (a : AttrR) (r : List AttrR) (n : Str) : hasA (a :: r) n = bif a.name == n then true else hasA r n := by
  unfold hasA
  rw [posA_cons, List.length_cons]
  cases a.name == n <;> rfl

theorem getA_cons (a : AttrR) (r : List AttrR) (n : Str) : getA (a :: r) n = bif a.name == n then a else getA r n := by
  unfold getA
  rw [hasA_cons, posA_cons]
  cases a.name == n <;> rfl

abbrev hasT (l : List (KT.C .two × VT.C .attr)) (t n : Str) : Bool := hasM (k := .two) (v := .attr) l (t, n)
abbrev getT2 (l : List (KT.C .two × VT.C .attr)) (t n : Str) : AttrR := getM (k := .two) (v := .attr) l (t, n)

theorem hasT_cons (t0 : Str) (a : AttrR) (r : List (KT.C .two × VT.C .attr)) (t n : Str) : hasT (ent t0 a :: r) t n = bif (t0 == t && a.name == n) then true else hasT r t n := rfl
theorem getT_cons (t0 : Str) (a : AttrR) (r : List (KT.C .two × VT.C .attr)) (t n : Str) : getT2 (ent t0 a :: r) t n = bif (t0 == t && a.name == n) then a else getT2 r t n := rfl

theorem hasT_map (t0 t n : Str) (rest : List (KT.C .two × VT.C .attr)) : ∀ l : List AttrR, hasT (l.map (ent t0) ++ rest) t n = bif (bif t0 == t then hasA l n else false) then true else hasT rest t n
  | [] => by cases t0 == t <;> rfl
  | a :: r => by
    have ih := hasT_map t0 t n rest r
    rw [List.map_cons, List.cons_append, hasT_cons, ih, hasA_cons]
    cases t0 == t <;> cases a.name == n <;> rfl

theorem getT_map (t0 t n : Str) (rest : List (KT.C .two × VT.C .attr)) : ∀ l : List AttrR, getT2 (l.map (ent t0) ++ rest) t n = bif (bif t0 == t then hasA l n else false) then getA l n else getT2 rest t n
  | [] => by cases t0 == t <;> rfl
  | a :: r => by
    have ih := getT_map t0 t n rest r
    rw [List.map_cons, List.cons_append, getT_cons, ih, hasA_cons, getA_cons]
    cases t0 == t <;> cases a.name == n <;> rfl

theorem ne_of_beq {a b t : Str} (h : a == t) (hne : (a == b) = false) : (b == t) = false := by
  have := beq_iff_eq.1 h
  subst this
  rw [beq_eq_false_iff_ne] at hne ⊢
  exact fun e => hne e.symm

theorem beq_comm' (a b : Str) : (a == b) = (b == a) := by
  rw [Bool.eq_iff_iff, beq_iff_eq, beq_iff_eq]
  exact eq_comm

/-- The map has what the document's table has. -/
theorem all_law (t n : Str) : hasT allL t n = hasA (attrsV t) n ∧ (hasA (attrsV t) n = true → getT2 allL t n = getA (attrsV t) n) := by
  unfold allL attrsV
  rw [hasT_map, hasT_map, hasT_map, ← List.append_nil (l_rule.map (ent a_rule)), hasT_map, getT_map, getT_map, getT_map, getT_map, beq_comm' a_disk, beq_comm' a_node, beq_comm' a_note, beq_comm' a_rule]
  have hn : ∀ a b : Str, (a == b) = false → t == a → (t == b) = false := fun a b h h' => by
    rw [beq_comm'] at h' ⊢
    exact ne_of_beq h' h
  cases h1 : t == a_disk with
  | true =>
    rw [hn a_disk a_node (by decide) h1, hn a_disk a_note (by decide) h1, hn a_disk a_rule (by decide) h1]
    simp only [cond_true, cond_false]
    cases h : hasA l_disk n <;> exact ⟨rfl, fun h => by first | rfl | (exact absurd h (by simp))⟩
  | false =>
    simp only [cond_false]
    cases h2 : t == a_node with
    | true =>
      rw [hn a_node a_note (by decide) h2, hn a_node a_rule (by decide) h2]
      simp only [cond_true, cond_false]
      cases h : hasA l_node n <;> exact ⟨rfl, fun h => by first | rfl | (exact absurd h (by simp))⟩
    | false =>
      simp only [cond_false]
      cases h3 : t == a_note with
      | true =>
        rw [hn a_note a_rule (by decide) h3]
        simp only [cond_true, cond_false]
        cases h : hasA l_note n <;> exact ⟨rfl, fun h => by first | rfl | (exact absurd h (by simp))⟩
      | false =>
        simp only [cond_false]
        cases h4 : t == a_rule with
        | true =>
          simp only [cond_true]
          cases h : hasA l_rule n <;> exact ⟨rfl, fun h => by first | rfl | (exact absurd h (by simp))⟩
        | false => exact ⟨rfl, fun h => absurd h (by simp [hasA, posA, ff])⟩

theorem SFind_sound (t n : Str) : Snd 18 [.str t, .str n] (.tup [.agg (cA (getA (attrsV t) n)), dI (bif hasA (attrsV t) n then 0 else 9)]) := by
  have he := e_find t n
  obtain ⟨h1, h2⟩ := all_law t n
  rw [show hasM (k := .two) (v := .attr) allL (t, n) = hasA (attrsV t) n from h1] at he
  cases h : hasA (attrsV t) n with
  | true =>
    rw [h] at he
    rw [← h2 h]
    exact snd_of tAll_ok (noTL_ok _ _) he
  | false =>
    rw [h] at he
    have : getA (attrsV t) n = aZ := by unfold getA; rw [h]; rfl
    rw [this]
    exact snd_of tAll_ok (noTL_ok _ _) he

end Go.Proofs.YtibfgggccedmdaaDoor
