/-
  THE CARD OF 'suretylaw22.RemoteNil' HOLDS: whatever the request and the value, the law returns true, and its arguments read as they did; the listed variables are tied to the program's text.
-/
import Derived.Test.YtnilfihmpeojfaaGreatDoorNil
import Derived.Test.YtnilfihmpeojfaaGreatDoorLaid
import Derived.Test.YtnilfihmpeojfaaGreatDoorCards
import Derived.Test.YtnilfihmpeojfaaGreatDoorTie
import Derived.ProofKit
import Derived.LaidLaws
import Derived.LaidHandle
import Derived.Stop.Joined
import Derived.SevenTiedAt
namespace Go.Proofs.YtnilfihmpeojfaaGreatDoor
open Go.Eng Go.RowKit Go.ChangeShapes Go.WideShapes

set_option maxRecDepth 100000

theorem remoteNil_lifted (os : Os) (started : os.Started) (H : Type) (enc : TypeId × Value → H) :
    ReturnsInHanded {} Tryz.checked os 3 .any (fun w args => (Rows.remoteNilSpec.pre enc Tryz.prog Tryz.f3 [] false w args ∧ laidMetH Tryz.prog laid9 w) ∧ sizedMet enc Tryz.prog Tryz.f3 (OpenSpec.ofChange Rows.remoteNilSpec) false w args)
      (Rows.remoteNilSpec.post enc Tryz.prog Tryz.f3 false true false false) := by
  refine returnsInHanded_of_change_and (C := Tryz.checked) (X := fun w _ => laidMetH Tryz.prog laid9 w) (fun _ _ _ hh h => h.of_heap hh) ownKnobs started (by kernel_rfl) Tryz.func3
    (ChangeSpec.witness_shaped (enc := enc) (C := Tryz.checked) (os := os) (X := fun w _ => laidMetH Tryz.prog laid9 w) false (World.doorLaid Tryz.prog 400 os)
      #[.agg #[.int .i64 0, .string ⟨#[]⟩, .string ⟨#[]⟩, .int .i64 0, .int .i64 0, .string ⟨#[]⟩, .int .u32 0, .int .i64 0, .int .i64 0, .string ⟨#[]⟩, .slice none 0 0, .slice none 0 0, .int .i64 0, .int .i64 0, .bool false, .int .i64 0, .int .i64 0, .string ⟨#[]⟩, .slice none 0 0, .slice none 0 0, .int .i64 0, .int .i64 0, .bool false], .agg #[.int .i64 0, .int .i64 0, .string ⟨#[]⟩, .slice none 0 0, .slice none 0 0, .int .i64 0, .int .i64 0, .bool false]] 8 rfl (World.shaped_of_RefB (by kernel_rfl) (by kernel_rfl)) (by kernel_rfl) (by kernel_rfl) (by kernel_rfl) (door_met os _)) ?_
  intro W base args ds gs before hval0 hW _ hwt hL _
  have hval : ∀ (j : Nat) t v, Tryz.f3.params[j]? = some t → args[j]? = some v → Value.okWide Tryz.prog W .any base t v := hval0
  have hW' := hW
  obtain ⟨p, q, hA0, hV, hpq, hfz, hnd⟩ := hW'
  have hA : DataW.TrodAll enc Tryz.prog W 0 (fun _ => true) true Tryz.f3.params.toList args.toList ds p := hA0
  rw [Tryz.params3] at hA hval
  obtain ⟨v0, vs0, d0, ds0, p0, q0, hargs, rfl, rfl, h0, hr0⟩ := trodAll_cons hA
  obtain ⟨v1, vs1, d1, ds1, p1, q1, rfl, rfl, rfl, h1, hr1⟩ := trodAll_cons hr0
  obtain ⟨rfl, rfl, rfl⟩ := trodAll_nil hr1
  obtain rfl : args = #[v0, v1] := by cases args; simp_all
  obtain ⟨rfl, rfl⟩ := trodVars_none hV
  have hwt' : (DataW.weightsEach Tryz.prog [34, 32] [d0, d1]).all (fun n => decide (n ≤ reachBytes)) = true := hwt
  simp only [DataW.weightsEach, List.all_append, Bool.and_eq_true] at hwt'
  obtain ⟨w0, w1, _⟩ := hwt'
  obtain ⟨_, ⟨k, a, v, u, rfl⟩, r0⟩ := arg_cells (emp := emp) h0 w0 rd_req
  obtain ⟨_, ⟨x, rfl⟩, r1⟩ := arg_cells (emp := emp) h1 w1 rdv
  have a0 := arg_agg Tryz.underlying34 (hval 0 34 v0 rfl rfl) r0
  have a1 := arg_agg Tryz.underlying32 (hval 1 32 v1 rfl rfl) r1
  have hs := nil_sound k a v u x W (fun _ => False) #[v0, v1] (glob_ok hL) (fun _ h => h.elim) rfl (fun i v c hv hc => by
    match i, hv, hc with
    | 0, hv, hc => simp only [List.getElem?_cons_zero, Option.some.injEq] at hc; simp at hv; subst hv hc; exact a0
    | 1, hv, hc => simp only [List.getElem?_cons_succ, List.getElem?_cons_zero, Option.some.injEq] at hc; simp at hv; subst hv hc; exact a1
    | i + 2, hv, hc => simp at hc)
  refine (calls_of Tryz.func3 (by kernel_rfl) (by kernel_rfl) hs).mono fun e W' ⟨v, he, hr, hb, _⟩ => ⟨v, he, ?_⟩
  cases hr
  exact close_true laidOut (by
    rw [Tryz.params3]
    intro t ht
    simp only [List.mem_cons, List.not_mem_nil, or_false] at ht
    rcases ht with rfl | rfl <;> exact ⟨by kernel_rfl, of_decide_eq_true (by kernel_rfl)⟩) (tb := 4) (by kernel_rfl) Tryz.underlying4 hW rfl rfl hb

theorem remoteNil_holds : Rows.RemoteNilSaid :=
  OpenClaim.holds_of_wide 3 Tryz.f3 rfl rfl rfl rfl rfl rfl rfl ⟨rfl, rfl, rfl, rfl, rfl⟩ rfl rfl rfl rfl rfl (by kernel_rfl) Tryz.func3 (by kernel_rfl)
    (of_decide_eq_true (by kernel_rfl)) (by unfold Func.isWrapper; first | (rw [if_pos (by decide +kernel)]; kernel_rfl) | (rw [if_neg (by decide +kernel)]; exact ⟨rfl, rfl⟩))
    (fun os started H enc _ => remoteNil_lifted os started H enc)

theorem remoteNil_card_holds : Rows.RemoteNilCardSaid :=
  Claim7.holds_tied_plain_at .later [] [.data, .data, .data, .data, .data, .data, .data, .data, .data] true (true, "fa4d714f46ed9ca259dc427a077d3441f5d86e4ba03aae7b9e1d9c4034a0a072") true
    remoteNil_holds (fun _ h => by cases h) (by kernel_rfl) (fun _ h => by cases h) remoteNil_row_tie rfl ⟨rfl, rfl⟩ (by kernel_rfl) rfl
    (fun f fn hf hfn => by
      obtain rfl : f = 3 := Option.some.inj ((show Tryz.prog.funcNamed "surety/suretylaw22.RemoteNil" = some 3 by kernel_rfl).symm.trans hf) |>.symm
      obtain rfl : fn = Tryz.f3 := (Option.some.inj (Tryz.func3.symm.trans hfn)).symm
      exact ⟨by kernel_rfl, fun j t ht => by
        rw [Tryz.params3] at ht
        have hall : ∀ t ∈ [34, 32], Tryz.prog.wantsStandIn t = false := by
          intro t ht
          simp only [List.mem_cons, List.not_mem_nil, or_false] at ht
          rcases ht with rfl | rfl <;> kernel_rfl
        exact hall t (List.mem_of_getElem? (i := j) (by simpa using ht))⟩)
    (by kernel_rfl)
#print axioms remoteNil_card_holds
end Go.Proofs.YtnilfihmpeojfaaGreatDoor
