/-
  sync.Once, done the first time, in one goroutine: its parts, each a contract of its own; the function that is handed over by a contract, too.
-/
import Derived.Test.YtmhmelmoionoiaaGreatDoorProg
import Derived.Tactics
import Derived.Tactics2
import Derived.Defers
import Derived.Laws.Pointers
import Derived.Laws.LoneSync
import Derived.RegionTactic
import Derived.RegionCalls
import Derived.ChangeAlike
import Derived.Laws.NewBlocks
namespace Go.Proofs.YtmhmelmoionoiaaGreatDoor.On
open Go.Proofs

set_option maxRecDepth 100000
set_option maxHeartbeats 1600000

theorem disable (w : World) : (callFunc 55 #[]).run Tryz.prog w = .ok (.value (.tuple #[])) w := run_call_mark0 Tryz.func55 (by kernel_rfl) (by kernel_rfl) (by kernel_rfl) .disable (by kernel_rfl) w
theorem enable (w : World) : (callFunc 57 #[]).run Tryz.prog w = .ok (.value (.tuple #[])) w := run_call_mark0 Tryz.func57 (by kernel_rfl) (by kernel_rfl) (by kernel_rfl) .enable (by kernel_rfl) w
theorem acquire (a : Addr) (w : World) : (callFunc 58 #[.pointer (some a)]).run Tryz.prog w = .ok (.value (.tuple #[])) w := run_call_marked Tryz.func58 (by kernel_rfl) (by kernel_rfl) (by kernel_rfl) .acquire (by kernel_rfl) a w
theorem releaseMerge (a : Addr) (w : World) : (callFunc 60 #[.pointer (some a)]).run Tryz.prog w = .ok (.value (.tuple #[])) w := run_call_marked Tryz.func60 (by kernel_rfl) (by kernel_rfl) (by kernel_rfl) .releaseMerge (by kernel_rfl) a w

/-- '(*sync/atomic.Bool).Store(true)', entered as a deferred call. -/
theorem store_deferred (a : Addr) (x : Value) (u : FrameMode) (w : World) (hc : w.cell? a = some x) (hz : w.frozen? a = false) :
    CallsD Tryz.prog 36 #[.pointer (some a), .bool true] u w fun e u' w' => u' = u ∧ (e = .returned (.tuple #[]) ∧ w' = w.drew.setCell a (.int .u32 1)) := by
  have hc' : w.drew.cell? a = some x := by go_simp
  have hz' : w.drew.frozen? a = false := by go_simp
  have hst := run_call_store (P := Tryz.prog) Tryz.func48 (by kernel_rfl) (by kernel_rfl) (by kernel_rfl) (by kernel_rfl) (k := .u32) (y := 1) hc' hz'
  go_enter_d Tryz.func36, Tryz.ntmps36
  go_wp2
  go_region_calls
  all_goals (go_end0; exact ⟨rfl, rfl⟩)

/-- '(*sync.Mutex).Unlock', entered as a deferred call, the lock held and nobody waiting. -/
theorem unlock_deferred (a : Addr) (u : FrameMode) (w : World) (hc : w.cell? a = some (.int .i32 1)) (hz : w.frozen? a = false) :
    CallsD Tryz.prog 35 #[.pointer (some a)] u w fun e u' w' => u' = u ∧ (e = .returned (.tuple #[]) ∧ w' = w.setCell a (.int .i32 0)) := by
  have hd := disable
  have he := enable
  have hr := releaseMerge
  have hadd := run_call_add (P := Tryz.prog) Tryz.func61 (by kernel_rfl) (by kernel_rfl) (by kernel_rfl) .i32 (by kernel_rfl) (y := -1) (s := 0) hc hz (by simp [go_sem]; rfl)
  have hcv := run_convert_to_unsafe (P := Tryz.prog) (src := 121) (dst := 125) Tryz.underlying121 Tryz.underlying125 (by kernel_rfl) hc
  go_enter_d Tryz.func35, Tryz.ntmps35
  go_wp2
  go_end0
  go_wp2
  go_end0
  exact ⟨rfl, rfl⟩

/-- '(*sync.Mutex).Lock', the lock free. -/
theorem lock_free (a : Addr) (w : World) (hc : w.cell? a = some (.int .i32 0)) (hz : w.frozen? a = false) :
    Calls Tryz.prog 34 #[.pointer (some a)] w fun e w' => e = .returned (.tuple #[]) ∧ w' = w.setCell a (.int .i32 1) := by
  have hd := disable
  have he := enable
  have ha := acquire
  have hcas := run_call_cas_hit (P := Tryz.prog) Tryz.func56 (by kernel_rfl) (by kernel_rfl) (by kernel_rfl) .i32 (by kernel_rfl) (y := 1) hc hz
  have hc' : (w.setCell a (.int .i32 1)).cell? a = some (.int .i32 1) := World.cell?_setCell_same w a _ hc
  have hcv := run_convert_to_unsafe (P := Tryz.prog) (src := 121) (dst := 125) Tryz.underlying121 Tryz.underlying125 (by kernel_rfl) hc'
  go_enter Tryz.func34, Tryz.ntmps34
  go_wp2
  first | go_end0 | (simp only [Exit.inBlock, Exit.then]; refine bodyPost_ret (results_none rfl _ _ _) rfl ?_) | refine bodyPost_ret (results_none rfl _ _ _) rfl ?_
  go_wp2
  go_end0
  exact ⟨rfl, rfl⟩

/-- What the function that is handed over may do: the Once's own cells stay as they are. -/
def OnceKept (R : Nat) (x1 : Int) (w : World) : Prop :=
  w.cell? ⟨R, 0, none⟩ = some (.int .u32 0) ∧ w.cell? ⟨R, 1, none⟩ = some (.int .i32 x1) ∧ w.frozen? ⟨R, 0, none⟩ = false ∧ w.frozen? ⟨R, 1, none⟩ = false

set_option maxRecDepth 100000 in
set_option maxHeartbeats 1600000 in
theorem slow_call (R : Nat) (w : World) (hk : OnceKept R 0 w) (Q : World → Prop)
    (hf : Calls Tryz.prog 15 #[.pointer (some ⟨R, 0, none⟩)] (w.setCell ⟨R, 1, none⟩ (.int .i32 1)) fun e w' => e = .returned (.tuple #[]) ∧ OnceKept R 1 w' ∧ Q w') :
    Calls Tryz.prog 24 #[.pointer (some ⟨R, 0, none⟩), .func (.func 15) #[.pointer (some ⟨R, 0, none⟩)] #[]] w fun e w' => e = .returned (.tuple #[]) ∧
      ∃ w2, Q w2 ∧ w' = (w2.drew.setCell ⟨R, 0, none⟩ (.int .u32 1)).setCell ⟨R, 1, none⟩ (.int .i32 0) := by
  obtain ⟨h0, h1, f0, f1⟩ := hk
  have hl := run_call_load (P := Tryz.prog) Tryz.func33 (by kernel_rfl) (by kernel_rfl) (by kernel_rfl) .u32 (by kernel_rfl) (w := w.setCell ⟨R, 1, none⟩ (.int .i32 1)) (a := ⟨R, 0, none⟩) (x := 0) ((World.cell?_setCell_other _ ⟨R, 1, none⟩ ⟨R, 0, none⟩ _ (by simp)).trans h0)
  have hnot : ∀ (x : Bool) (w : World), (Op.unary .not (.bool x)).run Tryz.prog w = .ok (.bool (!x)) w := fun _ _ => rfl
  go_enter_defers Tryz.func24, Tryz.ntmps24
  go_wp2_with (go_at_call 34; refine (lock_free ⟨R, 1, none⟩ _ (by go_simp) (by go_simp)).mono ?_; rintro e w' ⟨rfl, rfl⟩)
  go_wp2_with (first | (go_at_call 15; refine hf.mono ?_; rintro e w2 ⟨rfl, ⟨k0, k1, z0, z1⟩, hq⟩) | (go_at_call 23; go_in))
  -- the door: two deferred calls, the last laid first
  refine leaves_cons (f := 36) (args := #[.pointer (some ⟨R, 0, none⟩), .bool true]) (by simp) (by simp [go_sem]) ?_
  refine (store_deferred ⟨R, 0, none⟩ (.int .u32 0) .returning _ k0 z0).mono ?_
  rintro e u' w'' ⟨rfl, rfl, rfl⟩
  refine leaves_cons (f := 35) (args := #[.pointer (some ⟨R, 1, none⟩)]) (by simp [settle]) (by simp [go_sem]) ?_
  refine (unlock_deferred ⟨R, 1, none⟩ _ _ ?_ (by simp [z1])).mono ?_
  · refine (World.cell?_setCell_other _ ⟨R, 0, none⟩ ⟨R, 1, none⟩ _ (by simp)).trans ?_
    rw [World.cell?_drew]
    exact k1
  rintro e u' w'' ⟨rfl, rfl, rfl⟩
  simp [Leaves, settle, results, Tryz.results24]
  exact ⟨w2, hq, rfl⟩

set_option maxRecDepth 100000 in
set_option maxHeartbeats 1600000 in
theorem do_call (R : Nat) (w : World) (hk : OnceKept R 0 w) (Q : World → Prop)
    (hf : Calls Tryz.prog 15 #[.pointer (some ⟨R, 0, none⟩)] (w.setCell ⟨R, 1, none⟩ (.int .i32 1)) fun e w' => e = .returned (.tuple #[]) ∧ OnceKept R 1 w' ∧ Q w') :
    Calls Tryz.prog 14 #[.pointer (some ⟨R, 0, none⟩), .func (.func 15) #[.pointer (some ⟨R, 0, none⟩)] #[]] w fun e w' => e = .returned (.tuple #[]) ∧
      ∃ w2, Q w2 ∧ w' = (w2.drew.setCell ⟨R, 0, none⟩ (.int .u32 1)).setCell ⟨R, 1, none⟩ (.int .i32 0) := by
  have hl := run_call_load (P := Tryz.prog) Tryz.func33 (by kernel_rfl) (by kernel_rfl) (by kernel_rfl) .u32 (by kernel_rfl) hk.1
  have hnot : ∀ (x : Bool) (w : World), (Op.unary .not (.bool x)).run Tryz.prog w = .ok (.bool (!x)) w := fun _ _ => rfl
  go_enter Tryz.func14, Tryz.ntmps14
  go_wp2_with (first | (go_at_call 24; refine (slow_call R _ hk Q hf).mono ?_; rintro e w' ⟨rfl, w2, hq, rfl⟩) | (go_at_call 23; go_in))
  go_end0
  exact ⟨rfl, w2, hq, rfl⟩
end Go.Proofs.YtmhmelmoionoiaaGreatDoor.On
