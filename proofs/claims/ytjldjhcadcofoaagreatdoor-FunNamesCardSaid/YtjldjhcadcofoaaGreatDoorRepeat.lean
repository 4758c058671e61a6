/-
  slices.Repeat AT ONE TYPE, TWICE: walked.
-/
import Derived.Test.YtjldjhcadcofoaaGreatDoorLib
import Derived.Test.YtjldjhcadcofoaaGreatDoorChecked
import Derived.Lib.Walk
import Derived.WalkKit
import Derived.BigCall
import Derived.BigGuard
import Derived.Laws.CopyRow
import Derived.Laws.MakeOwn
import Derived.Deep.WholeRow
import Derived.Deep.RegionLaw
import Derived.LoopN
import Derived.Laws.NewBlocks
namespace Go.Proofs
open Go.RowKit Go.Lib Go.Eng

set_option maxHeartbeats 1600000
set_option maxRecDepth 100000

theorem Tryz.mulC (w : World) : Calls Tryz.prog 56 #[.int .u64 1, .int .u64 2] w fun e w' => e = .returned (.tuple #[.int .u64 0, .int .u64 2]) ∧ w' = w := by
  go_enter Tryz.func56, Tryz.ntmps56
  go_wp2
  go_ret2
  exact ⟨by kernel_rfl, rfl⟩

theorem run_copy_sz {P : Program} (w : World) (dT sT ty elem : TypeId) (g o dLen dCap n : Nat) (a : Addr) (sLen sCap : Nat) (cur : Array Value) (t : TypeId) (cs : List Value)
    (hu : P.underlying dT = some (.slice elem)) (hs : (P.info? elem).map (·.size) = some n)
    (hg : w.heap[g]? = some (.cells cur t (0, 0))) (hn : cs.length = Nat.min sLen dLen * n)
    (hsrc : ∀ j v, cs[j]? = some v → w.cell? (a.add j) = some v) (hfit : o + cs.length ≤ cur.size) (h1 : ∀ v ∈ cs, v.oneCell' = true) :
    (Builtin.copy_ #[dT, sT] ty #[.slice (some ⟨g, o, none⟩) dLen dCap, .slice (some a) sLen sCap]).run P w =
      .ok (goInt (Nat.min sLen dLen)) (w.setRow g (cur.toList.take o ++ cs ++ cur.toList.drop (o + cs.length)).toArray) := by
  have hl := run_loadCells_list (P := P) w a cs hsrc
  have hst := run_storeCells_at P g o t cs 0 cur w hg (by simpa using hfit) h1
  cases hq : P.info? elem with
  | none => simp [hq] at hs
  | some i =>
    have hi : i.size = n := by simpa [hq] using hs
    simp [Builtin.copy_, run_underlying hu, Builtin.lenOf, Builtin.firstCells, sizeOf, typeInfo, hq, hi, ← hn, hl, hst]

def z27 : Array Value := #[.int .i64 0, .int .i64 0, .int .i64 0, .int .i64 0]
theorem Tryz.repeat2 (b off c : Nat) (k1 k2 : Int) (w : World) (h0 : w.cell? ⟨b, off, none⟩ = some (.int .i64 k1)) (h1 : w.cell? ⟨b, off + 1, none⟩ = some (.int .i64 k2)) (hb : b < w.heap.size) :
    Calls Tryz.prog 39 #[.slice (some ⟨b, off, none⟩) 1 c, .int .i64 2] w fun e w' => e = .returned (.slice (some ⟨w.heap.size, 0, none⟩) 2 2) ∧ w' = (w.alloc (.cells #[.int .i64 k1, .int .i64 k2, .int .i64 k1, .int .i64 k2] 27)).drew := by
  have hmk : (Instr.makeSlice 50 (.int .i64 2) (.int .i64 2)).run Tryz.prog w = .ok (.slice (some ⟨w.heap.size, 0, none⟩) 2 2) (w.alloc (.cells z27 27)) := by
    have hi : (Tryz.prog.info? 27).map (fun i => (i.zero, i.size, i.bytes)) = some (some (.agg #[.int .i64 0, .int .i64 0]), 2, 16) := by kernel_rfl
    cases hq : Tryz.prog.info? 27 with
    | none => simp [hq] at hi
    | some i =>
      simp only [hq, Option.map_some, Option.some.injEq, Prod.mk.injEq] at hi
      obtain ⟨hz, hs, hby⟩ := hi
      have := run_make (P := Tryz.prog) w 50 27 i _ Tryz.underlying50 hq hz .i64 .i64 2 2 (by omega) (by omega) (by rw [hby]; omega) (by omega)
      rw [this, hs, show madeCells (Value.agg #[Value.int IntKind.i64 0, Value.int IntKind.i64 0]).cells (Int.toNat 2 * 2) = z27 by kernel_rfl]
      rfl
  have hc1 : ∀ ty, (Builtin.copy_ #[50, 50] ty #[.slice (some ⟨w.heap.size, 0, none⟩) 2 2, .slice (some ⟨b, off, none⟩) 1 c]).run Tryz.prog (w.alloc (.cells z27 27)) =
      .ok (.int .i64 1) (w.alloc (.cells #[.int .i64 k1, .int .i64 k2, .int .i64 0, .int .i64 0] 27)) := by
    intro ty
    have := run_copy_sz (P := Tryz.prog) (w.alloc (.cells z27 27)) 50 50 ty 27 w.heap.size 0 2 2 2 ⟨b, off, none⟩ 1 c z27 27 [.int .i64 k1, .int .i64 k2] Tryz.underlying50 (by kernel_rfl) (heap_alloc_new w _) rfl (fun j v hj => by
      match j, hj with
      | 0, hj => simp at hj; subst hj; rw [add_zero', World.cell?_alloc_past _ _ _ hb]; exact h0
      | 1, hj => simp at hj; subst hj; show World.cell? _ ⟨b, off + 1, none⟩ = _; rw [World.cell?_alloc_past _ _ _ hb]; exact h1
      | j + 2, hj => simp at hj) (by simp [z27]) (by intro v hv; simp at hv; rcases hv with rfl | rfl <;> rfl)
    rw [this, World.setRow_alloc_new]
    rfl
  have hc2 : ∀ ty, (Builtin.copy_ #[50, 50] ty #[.slice (some ⟨w.heap.size, 2, none⟩) 1 1, .slice (some ⟨w.heap.size, 0, none⟩) 1 2]).run Tryz.prog (w.alloc (.cells #[.int .i64 k1, .int .i64 k2, .int .i64 0, .int .i64 0] 27)).drew =
      .ok (.int .i64 1) (w.alloc (.cells #[.int .i64 k1, .int .i64 k2, .int .i64 k1, .int .i64 k2] 27)).drew := by
    intro ty
    have := run_copy_sz (P := Tryz.prog) (w.alloc (.cells #[.int .i64 k1, .int .i64 k2, .int .i64 0, .int .i64 0] 27)).drew 50 50 ty 27 w.heap.size 2 1 1 2 ⟨w.heap.size, 0, none⟩ 1 2 #[.int .i64 k1, .int .i64 k2, .int .i64 0, .int .i64 0] 27 [.int .i64 k1, .int .i64 k2] Tryz.underlying50 (by kernel_rfl) (heap_alloc_new w _) rfl (fun j v hj => by
      match j, hj with
      | 0, hj => simp at hj; subst hj; show World.cell? (w.alloc _) ⟨_, 0, none⟩ = _; rw [World.cell?_alloc_mark]; rfl
      | 1, hj => simp at hj; subst hj; show World.cell? (w.alloc _) ⟨_, 1, none⟩ = _; rw [World.cell?_alloc_mark]; rfl
      | j + 2, hj => simp at hj) (by simp) (by intro v hv; simp at hv; rcases hv with rfl | rfl <;> rfl)
    rw [this]
    show Result.ok _ (World.setRow (w.alloc _) _ _).drew = _
    rw [World.setRow_alloc_new]
    rfl
  go_enter Tryz.func39, Tryz.ntmps39
  go_wp2_with (go_at_call 56; refine (Tryz.mulC _).mono ?_; rintro e w' ⟨rfl, rfl⟩)
  refine wp_loop_rounds 2 ?_
  rw [rounds_succ]
  go_wp2
  go_region
  show Code.rounds _ _ _ 1 _ _
  rw [rounds_succ]
  go_wp2
  go_ret
  exact ⟨rfl, rfl⟩

end Go.Proofs
