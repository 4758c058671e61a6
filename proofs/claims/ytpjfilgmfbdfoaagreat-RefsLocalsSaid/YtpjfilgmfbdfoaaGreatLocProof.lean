/-
  THE ROW OF 'suretylaw15.RefsLocals' HOLDS: whatever the text, the law returns true, and its argument reads as it did.
-/
import Derived.Test.YtpjfilgmfbdfoaaGreatLocE
import Derived.Test.YtpjfilgmfbdfoaaGreatEngZ
import Derived.Test.YtpjfilgmfbdfoaaGreatRows
import Derived.ProofKit
import Derived.HandedShaped
import Derived.Stop.Joined
namespace Go.Proofs.YtpjfilgmfbdfoaaGreat
open Go.Eng Go.RowKit Go.ChangeShapes Go.WideShapes
set_option maxRecDepth 100000
theorem ownKnobs:ownKnob Tryz.prog.godebug=none:=by kernel_rfl
theorem laidOut:laidOutB Tryz.prog=true:=by kernel_rfl
theorem glob_ok {W:World}:GlobOk X0.C X0.glob W (fun _=>False):=by
  intro i cs h
  have h':glb i=some cs:=h
  simp [glb] at h'
theorem rds {H:Type} {enc:TypeId×Value→H} {W:World} (n:Nat):RdAt enc Tryz.prog emp W n 9 fun ds=>∃s:Str,s.length≤reachBytes∧ds=[.str s]:=rd_str Tryz.underlying9 n
theorem refsLocals_lifted (os:Os) (started:os.Started) (H:Type) (enc:TypeId×Value→H) :
    ReturnsInHanded {} Tryz.checked os 3 .any (Rows.refsLocalsSpec.pre6 enc Tryz.prog Tryz.f3 Rows.refsLocalsRow.domain false)
      (Rows.refsLocalsSpec.post enc Tryz.prog Tryz.f3 false true false false):=by
  refine returnsInHanded_of_change_shaped (C:=Tryz.checked) ownKnobs started (by kernel_rfl) Tryz.func3
    (ChangeSpec.witness6 (enc:=enc) (C:=Tryz.checked) false ⟨#[],#[.string ⟨#[]⟩],[]⟩ 8 (by kernel_rfl) (by kernel_rfl) (by kernel_rfl) (by kernel_rfl)) ?_
  intro W base args ds gs before hval0 hW _ hwt _ _
  have hval:∀(j:Nat) t v,Tryz.f3.params[j]?=some t→args[j]?=some v→Value.okWide Tryz.prog W .any base t v:=hval0
  have hW':=hW
  obtain ⟨p,q,hA0,hV,hpq,hfz,hnd⟩:=hW'
  have hA:DataW.TrodAll enc Tryz.prog W 0 (fun _=>true) true Tryz.f3.params.toList args.toList ds p:=hA0
  rw [Tryz.params3] at hA hval
  obtain ⟨v0,vs0,d0,ds0,p0,q0,hargs,rfl,rfl,h0,hr0⟩:=trodAll_cons hA
  obtain ⟨rfl,rfl,rfl⟩:=trodAll_nil hr0
  obtain rfl:args=#[v0]:=by cases args;simp_all
  obtain ⟨rfl,rfl⟩:=trodVars_none hV
  have hwt':(DataW.weightsEach Tryz.prog [9] [d0]).all (fun n=>decide (n≤reachBytes))=true:=hwt
  simp only [DataW.weightsEach,List.all_append,Bool.and_eq_true] at hwt'
  obtain ⟨w0,_⟩:=hwt'
  obtain ⟨_,⟨s,_,rfl⟩,r0⟩:=arg_cells (emp:=emp) h0 w0 rds
  have a0:=arg_one (show shapeT Tryz.prog 9=1 by kernel_rfl) (hval 0 9 v0 rfl rfl) r0
  have hs:=locals_true s W (fun _=>False) #[v0] glob_ok (fun _ h=>h.elim) rfl (fun i v c hv hc=>by
    match i,hv,hc with
    | 0,hv,hc=>simp only [List.getElem?_cons_zero,Option.some.injEq] at hc;simp at hv;subst hv hc;exact a0
    | i+1,hv,hc=>simp at hc)
  refine (calls_of Tryz.func3 (by kernel_rfl) (by kernel_rfl) hs).mono fun e W' ⟨v,he,hr,hb,_⟩=>⟨v,he,?_⟩
  cases hr
  exact close_true laidOut (by
    rw [Tryz.params3]
    intro t ht
    simp only [List.mem_cons,List.not_mem_nil,or_false] at ht
    rcases ht with rfl<;>exact ⟨by kernel_rfl,of_decide_eq_true (by kernel_rfl)⟩) (tb:=4) (by kernel_rfl) Tryz.underlying4 hW rfl rfl hb
theorem refsLocals_holds:Rows.RefsLocalsSaid :=
  OpenClaim.holds_of_wide 3 Tryz.f3 rfl rfl rfl rfl rfl rfl rfl ⟨rfl,rfl,rfl,rfl,rfl⟩ rfl rfl rfl rfl rfl (by kernel_rfl) Tryz.func3 (by kernel_rfl)
    (of_decide_eq_true (by kernel_rfl)) (by unfold Func.isWrapper;first | (rw [if_pos (by decide +kernel)];kernel_rfl) | (rw [if_neg (by decide +kernel)];exact ⟨rfl,rfl⟩))
    (fun os started H enc _=>refsLocals_lifted os started H enc)
#print axioms refsLocals_holds
end Go.Proofs.YtpjfilgmfbdfoaaGreat
