/-
  THE CARD OF 'suretylaw06.AddrBytes' HOLDS: whatever the bytes and the object, the law returns true, and its arguments read as they did; the listed variables are tied to the program's text.
-/
import Derived.Test.YtgngobcmfflcpaaDoorLaidB
import Derived.Test.YtgngobcmfflcpaaDoorLaid
import Derived.Test.YtgngobcmfflcpaaDoorCards
import Derived.Test.YtgngobcmfflcpaaDoorTie
import Derived.ProofKit
import Derived.LaidLaws
import Derived.LaidHandle
import Derived.Stop.Joined
import Derived.SevenTiedAt
namespace Go.Proofs.YtgngobcmfflcpaaDoor
open Go.Eng Go.RowKit Go.ChangeShapes Go.WideShapes

set_option maxRecDepth 100000

theorem addrBytes_lifted (os : Os) (started : os.Started) (H : Type) (enc : TypeId × Value → H) :
    ReturnsInHanded {} Tryd.checked os 3 .any (fun w args => (Rows.addrBytesSpec.pre enc Tryd.prog Tryd.f3 [] false w args ∧ laidMetH Tryd.prog laid3 w) ∧ sizedMet enc Tryd.prog Tryd.f3 (OpenSpec.ofChange Rows.addrBytesSpec) false w args)
      (Rows.addrBytesSpec.post enc Tryd.prog Tryd.f3 false true false false) := by
  refine returnsInHanded_of_change_and (C := Tryd.checked) (X := fun w _ => laidMetH Tryd.prog laid3 w) (fun _ _ _ hh h => h.of_heap hh) ownKnobs started (by kernel_rfl) Tryd.func3
    (ChangeSpec.witness_shaped (enc := enc) (C := Tryd.checked) (os := os) (X := fun w _ => laidMetH Tryd.prog laid3 w) false (World.doorLaid Tryd.prog 400 os)
      #[.slice none 0 0, .agg #[.string ⟨#[]⟩, .string ⟨#[]⟩, .int .i64 0, .int .i64 0, .string ⟨#[]⟩, .int .u32 0]] 8 rfl (World.shaped_of_RefB (by kernel_rfl) (by kernel_rfl)) (by kernel_rfl) (by kernel_rfl) (by kernel_rfl) (door_met os _)) ?_
  intro W base args ds gs before hval0 hW _ hwt hL _
  have hval : ∀ (j : Nat) t v, Tryd.f3.params[j]? = some t → args[j]? = some v → Value.okWide Tryd.prog W .any base t v := hval0
  have hW' := hW
  obtain ⟨p, q, hA0, hV, hpq, hfz, hnd⟩ := hW'
  have hA : DataW.TrodAll enc Tryd.prog W 0 (fun _ => true) true Tryd.f3.params.toList args.toList ds p := hA0
  rw [Tryd.params3] at hA hval
  obtain ⟨v0, vs0, d0, ds0, p0, q0, hargs, rfl, rfl, h0, hr0⟩ := trodAll_cons hA
  obtain ⟨v1, vs1, d1, ds1, p1, q1, rfl, rfl, rfl, h1, hr1⟩ := trodAll_cons hr0
  obtain ⟨rfl, rfl, rfl⟩ := trodAll_nil hr1
  obtain rfl : args = #[v0, v1] := by cases args; simp_all
  obtain ⟨rfl, rfl⟩ := trodVars_none hV
  have hwt' : (DataW.weightsEach Tryd.prog [22, 27] [d0, d1]).all (fun n => decide (n ≤ reachBytes)) = true := hwt
  simp only [DataW.weightsEach, List.all_append, Bool.and_eq_true] at hwt'
  obtain ⟨w0, w1, _⟩ := hwt'
  obtain ⟨_, ⟨l, _, rfl⟩, r0⟩ := arg_cells (emp := emp) h0 w0 rd_bytes
  obtain ⟨_, ⟨k, rfl⟩, r1⟩ := arg_cells (emp := emp) h1 w1 rd_key
  have a0 := arg_one (show shapeT Tryd.prog 22 = 1 by kernel_rfl) (hval 0 22 v0 rfl rfl) r0
  have a1 := arg_agg Tryd.underlying27 (hval 1 27 v1 rfl rfl) r1
  have hs := bytes_any l k W (fun _ => False) #[v0, v1] glob_ok (fun _ h => h.elim) rfl (fun i v c hv hc => by
    match i, hv, hc with
    | 0, hv, hc => simp only [List.getElem?_cons_zero, Option.some.injEq] at hc; simp at hv; subst hv hc; exact a0
    | 1, hv, hc => simp only [List.getElem?_cons_succ, List.getElem?_cons_zero, Option.some.injEq] at hc; simp at hv; subst hv hc; exact a1
    | i + 2, hv, hc => simp at hc)
  refine (calls_of Tryd.func3 (by kernel_rfl) (by kernel_rfl) hs).mono fun e W' ⟨v, he, hr, hb, _⟩ => ⟨v, he, ?_⟩
  cases hr
  exact close_true laidOut (by
    rw [Tryd.params3]
    intro t ht
    simp only [List.mem_cons, List.not_mem_nil, or_false] at ht
    rcases ht with rfl | rfl <;> exact ⟨by kernel_rfl, of_decide_eq_true (by kernel_rfl)⟩) (tb := 4) (by kernel_rfl) Tryd.underlying4 hW rfl rfl hb

theorem addrBytes_holds : Rows.AddrBytesSaid :=
  OpenClaim.holds_of_wide 3 Tryd.f3 rfl rfl rfl rfl rfl rfl rfl ⟨rfl, rfl, rfl, rfl, rfl⟩ rfl rfl rfl rfl rfl (by kernel_rfl) Tryd.func3 (by kernel_rfl)
    (of_decide_eq_true (by kernel_rfl)) (by unfold Func.isWrapper; first | (rw [if_pos (by decide +kernel)]; kernel_rfl) | (rw [if_neg (by decide +kernel)]; exact ⟨rfl, rfl⟩))
    (fun os started H enc _ => addrBytes_lifted os started H enc)

theorem addrBytes_card_holds : Rows.AddrBytesCardSaid :=
  Claim7.holds_tied_plain_at .later [] [.data, .data, .data] true (true, "6ea4899579e91e822e135293f24e01ea388d2925f8c1177291dbe0aa9ba30b99") false
    addrBytes_holds (fun _ h => by cases h) (by kernel_rfl) (fun _ h => by cases h) addrBytes_row_tie rfl ⟨rfl, rfl⟩ (by kernel_rfl) rfl
    (fun f fn hf hfn => by
      obtain rfl : f = 3 := Option.some.inj ((show Tryd.prog.funcNamed "surety/suretylaw06.AddrBytes" = some 3 by kernel_rfl).symm.trans hf) |>.symm
      obtain rfl : fn = Tryd.f3 := (Option.some.inj (Tryd.func3.symm.trans hfn)).symm
      exact ⟨by kernel_rfl, fun j t ht => by
        rw [Tryd.params3] at ht
        have hall : ∀ t ∈ [22, 27], Tryd.prog.wantsStandIn t = false := by
          intro t ht
          simp only [List.mem_cons, List.not_mem_nil, or_false] at ht
          rcases ht with rfl | rfl <;> kernel_rfl
        exact hall t (List.mem_of_getElem? (i := j) (by simpa using ht))⟩)
    (by kernel_rfl)
#print axioms addrBytes_card_holds
end Go.Proofs.YtgngobcmfflcpaaDoor
