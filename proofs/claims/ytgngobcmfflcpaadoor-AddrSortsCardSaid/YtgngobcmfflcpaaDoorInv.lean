/-
  What reads as a key of type api.Key has six cells.
-/
import Derived.Test.YtgngobcmfflcpaaDoorKeys
namespace Go.Proofs.YtgngobcmfflcpaaDoor
open Go.RowKit Go.Maps Go.Eng Go.Proofs

theorem lit1 {d : Nat} {t : TypeId} {cs : List Value} {ls : List Lit} (h : Tryd.prog.keyLits (d + 1) t cs = some ls) (ht : Tryd.prog.underlying t = some .string ∨ ∃ q, Tryd.prog.underlying t = some (.int q)) :
    ∃ c, cs = [c] ∧ c.oneCell' = true := by
  unfold Program.keyLits at h
  rcases ht with ht | ⟨q, ht⟩ <;> rw [ht] at h <;> split at h <;> first | (simp at h; done) | skip
  all_goals first | (rename_i e _; cases e; done) | exact ⟨_, rfl, rfl⟩ | (simp_all; done)

theorem six {l : List Value} (h : l.length = 6) : ∃ a b c d e f, l = [a, b, c, d, e, f] := by
  match l, h with
  | [a, b, c, d, e, f], _ => exact ⟨a, b, c, d, e, f, rfl⟩

set_option maxRecDepth 100000 in
theorem hinv (key : Value) (kl : Lit) (h : keyOf Tryd.prog kT key = some kl) : ∃ x : K6, key = x.v := by
  have hn : Tryd.prog.types.size = (Tryd.prog.types.size - 2) + 2 := by kernel_rfl
  have c27 : Tryd.prog.cellsOf 27 = 6 := by kernel_rfl
  have c24 : Tryd.prog.cellsOf 24 = 5 := by kernel_rfl
  have c25 : Tryd.prog.cellsOf 25 = 1 := by kernel_rfl
  have c9 : Tryd.prog.cellsOf 9 = 1 := by kernel_rfl
  have c3 : Tryd.prog.cellsOf 3 = 1 := by kernel_rfl
  have c2 : Tryd.prog.cellsOf 2 = 1 := by kernel_rfl
  have h : keyOf Tryd.prog 27 key = some kl := h
  unfold keyOf at h
  rw [Tryd.underlying27] at h
  simp only at h
  split at h
  · obtain ⟨ls, hls, _⟩ := Option.map_eq_some_iff.1 h
    rw [hn] at hls
    generalize Tryd.prog.types.size - 2 = n at hls
    unfold Program.keyLits at hls
    rw [Tryd.underlying27] at hls
    simp only at hls
    split at hls
    · rename_i hc
      rw [c27] at hc
      obtain ⟨a, b, c, d, e, f, hcs⟩ := six hc.1
      rw [hcs] at hls
      simp only [List.mapM_cons, List.mapM_nil, Option.map_eq_some_iff, Option.bind_eq_some_iff, Option.bind_eq_bind, c24, c25, List.drop_zero, List.drop_succ_cons, List.take_succ_cons, List.take_zero] at hls
      obtain ⟨_, ⟨l1, h1, l2, ⟨l3, h3, _⟩, _⟩, _⟩ := hls
      obtain ⟨_, e3, b5⟩ := lit1 h3 (.inr ⟨_, Tryd.underlying25⟩)
      cases e3
      unfold Program.keyLits at h1
      rw [Tryd.underlying24] at h1
      simp only at h1
      split at h1
      · simp only [List.mapM_cons, List.mapM_nil, Option.map_eq_some_iff, Option.bind_eq_some_iff, Option.bind_eq_bind, c9, c3, c2, List.drop_zero, List.drop_succ_cons, List.take_succ_cons, List.take_zero] at h1
        obtain ⟨_, ⟨k1, g1, k2, ⟨k3, g3, k4, ⟨k5, g5, k6, ⟨k7, g7, k8, ⟨k9, g9, _⟩, _⟩, _⟩, _⟩, _⟩, _⟩ := h1
        obtain ⟨_, e1, b0⟩ := lit1 g1 (.inl Tryd.underlying9)
        obtain ⟨_, e2, b1⟩ := lit1 g3 (.inl Tryd.underlying9)
        obtain ⟨_, e4, b2⟩ := lit1 g5 (.inr ⟨_, Tryd.underlying3⟩)
        obtain ⟨_, e5, b3⟩ := lit1 g7 (.inr ⟨_, Tryd.underlying2⟩)
        obtain ⟨_, e6, b4⟩ := lit1 g9 (.inl Tryd.underlying9)
        cases e1; cases e2; cases e4; cases e5; cases e6
        refine ⟨⟨_, _, _, _, _, _, b0, b1, b2, b3, b4, b5⟩, ?_⟩
        cases key <;> first | (simp [Value.cells] at hcs; done) | skip
        rename_i cs
        simp only [Value.cells] at hcs
        exact congrArg Value.agg (by apply Array.ext'; simpa using hcs)
      · simp at h1
    · simp at hls
  · simp at h
end Go.Proofs.YtgngobcmfflcpaaDoor
