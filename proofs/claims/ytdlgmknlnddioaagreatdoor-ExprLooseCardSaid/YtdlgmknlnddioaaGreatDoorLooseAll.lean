/-
  THE LAW ON SIGNS: whatever the two signs, it returns true.
-/
import Derived.Test.YtdlgmknlnddioaaGreatDoorLoose
namespace Go.Proofs.YtdlgmknlnddioaaGreatDoor
open Go.Eng

set_option maxRecDepth 100000

theorem all169 : ((List.range 13).all fun i => (List.range 13).all fun k => isT (ruleL (parseM 40) (i : Int) (k : Int))) = true := by kernel_rfl

theorem mod13 {a : Int} (h : inR .u8 a = true) : ∃ i : Nat, i < 13 ∧ (IntKind.i64.wrap a).tmod 13 = (i : Int) := by
  have h := inR_of h
  simp only [lo, hi] at h
  obtain ⟨m, rfl⟩ := Int.eq_ofNat_of_zero_le h.1
  have hb : big = 140737488355328 := rfl
  have hw : IntKind.i64.wrap ((m : Nat) : Int) = ((m : Nat) : Int) := wrap_in _ (by omega)
  refine ⟨m % 13, Nat.mod_lt _ (by decide), ?_⟩
  rw [hw]
  rfl

theorem loose_sound (a b : Int) (ha : inR .u8 a = true) (hb : inR .u8 b = true) : Snd 4 [.int .u8 a, .int .u8 b] (.bool true) := by
  obtain ⟨i, hi, ei⟩ := mod13 ha
  obtain ⟨k, hk, ek⟩ := mod13 hb
  have h := all169
  rw [List.all_eq_true] at h
  have h := h i (List.mem_range.2 hi)
  rw [List.all_eq_true] at h
  have h := h k (List.mem_range.2 hk)
  refine snd_fn (n := 2) tLo_ok (noTL_ok _ _) (fn := Tryz.f4) (by kernel_rfl) (loops_of (f := 4) (fn := Tryz.f4) (by kernel_rfl) (loops_0 (by kernel_rfl))) ((eLo _ a b).trans ?_)
  rw [ei, ek, eRest]
  exact isT_eq h

theorem loose_law (a : Int) (ha : inR .u8 a = true) (b : Int) (hb : inR .u8 b = true) : Snd 4 [.int .u8 a, .int .u8 b] (.bool true) := loose_sound a b ha hb

end Go.Proofs.YtdlgmknlnddioaaGreatDoor
