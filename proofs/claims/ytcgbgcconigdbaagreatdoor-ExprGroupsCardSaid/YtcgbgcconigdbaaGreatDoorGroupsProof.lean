/-
 THE CARD OF 'suretylaw08.ExprGroups' HOLDS: whatever the text, whatever the number, the law returns true, and its arguments read as they did; the listed variables are tied to the program's text.
-/
import Derived.Test.YtcgbgcconigdbaaGreatDoorLawG
import Derived.Test.YtcgbgcconigdbaaGreatDoorLaid
import Derived.Test.YtcgbgcconigdbaaGreatDoorCards
import Derived.Test.YtcgbgcconigdbaaGreatDoorTie
import Derived.ProofKit
import Derived.LaidLaws
import Derived.LaidHandle
import Derived.Stop.Joined
import Derived.SevenTiedAt
namespace Go.Proofs.YtcgbgcconigdbaaGreatDoor
open Go.Eng Go.RowKit Go.ChangeShapes Go.WideShapes
set_option maxRecDepth 100000
theorem exprGroups_lifted (os:Os) (started:os.Started) (H:Type) (enc:TypeId×Value→H) :
  ReturnsInHanded {} Tryz.checked os 3 .any (fun w args=>(Rows.exprGroupsSpec.pre enc Tryz.prog Tryz.f3 [] false w args∧laidMetH Tryz.prog laid5 w)∧sizedMet enc Tryz.prog Tryz.f3 (OpenSpec.ofChange Rows.exprGroupsSpec) false w args)
   (Rows.exprGroupsSpec.post enc Tryz.prog Tryz.f3 false true false false):=by
 refine returnsInHanded_of_change_and (C:=Tryz.checked) (X:=fun w _=>laidMetH Tryz.prog laid5 w) (fun _ _ _ hh h=>h.of_heap hh) ownKnobs started (by kernel_rfl) Tryz.func3
  (ChangeSpec.witness_shaped (enc:=enc) (C:=Tryz.checked) (os:=os) (X:=fun w _=>laidMetH Tryz.prog laid5 w) false (World.doorLaid Tryz.prog 400 os)
   #[.string ⟨#[]⟩,.int .u8 0] 8 rfl (World.shaped_of_RefB (by kernel_rfl) (by kernel_rfl)) (by kernel_rfl) (by kernel_rfl) (by kernel_rfl) (door_met os _)) ?_
 intro W base args ds gs before hval0 hW _ hwt hL _
 have hval:∀(j:Nat) t v,Tryz.f3.params[j]?=some t→args[j]?=some v→Value.okWide Tryz.prog W .any base t v:=hval0
 have hW':=hW
 obtain ⟨p,q,hA0,hV,hpq,hfz,hnd⟩:=hW'
 have hA:DataW.TrodAll enc Tryz.prog W 0 (fun _=>true) true Tryz.f3.params.toList args.toList ds p:=hA0
 rw [Tryz.params3] at hA hval
 obtain ⟨v0,vs0,d0,ds0,p0,q0,hargs,rfl,rfl,h0,hr0⟩:=trodAll_cons hA
 obtain ⟨v1,vs1,d1,ds1,p1,q1,rfl,rfl,rfl,h1,hr1⟩:=trodAll_cons hr0
 obtain ⟨rfl,rfl,rfl⟩:=trodAll_nil hr1
 obtain rfl:args=#[v0,v1]:=by cases args;simp_all
 obtain ⟨rfl,rfl⟩:=trodVars_none hV
 have hwt':(DataW.weightsEach Tryz.prog [9,5] [d0,d1]).all (fun n=>decide (n≤reachBytes))=true:=hwt
 simp only [DataW.weightsEach,List.all_append,Bool.and_eq_true] at hwt'
 obtain ⟨w0,w1,_⟩:=hwt'
 obtain ⟨_,⟨s,_,rfl⟩,r0⟩:=arg_cells (emp:=emp) h0 w0 rds
 obtain ⟨_,⟨n,_,rfl⟩,r1⟩:=arg_cells (emp:=emp) h1 w1 rdu8
 have a0:=arg_one (show shapeT Tryz.prog 9=1 by kernel_rfl) (hval 0 9 v0 rfl rfl) r0
 have a1:=arg_one (show shapeT Tryz.prog 5=1 by kernel_rfl) (hval 1 5 v1 rfl rfl) r1
 have hs:=Rd.exprGroups_sound s n W (fun _=>False) #[v0,v1] (glob_ok hL) (fun _ h=>h.elim) rfl (fun i v c hv hc=>by
  match i,hv,hc with
  | 0,hv,hc=>simp only [List.getElem?_cons_zero,Option.some.injEq] at hc;simp at hv;subst hv hc;exact strN a0
  | 1,hv,hc=>simp only [List.getElem?_cons_succ,List.getElem?_cons_zero,Option.some.injEq] at hc;simp at hv;subst hv hc;exact intN a1
  | i+2,hv,hc=>simp at hc)
 refine (calls_of Tryz.func3 (by kernel_rfl) (by kernel_rfl) hs).mono fun e W' ⟨v,he,hr,hb,_⟩=>⟨v,he,?_⟩
 cases hr
 exact close_true laidOut (by
  rw [Tryz.params3]
  intro t ht
  simp only [List.mem_cons,List.not_mem_nil,or_false] at ht
  rcases ht with rfl | rfl<;>exact ⟨by kernel_rfl,of_decide_eq_true (by kernel_rfl)⟩) (tb:=4) (by kernel_rfl) Tryz.underlying4 hW rfl rfl hb
theorem exprGroups_holds:Rows.ExprGroupsSaid :=
 OpenClaim.holds_of_wide 3 Tryz.f3 rfl rfl rfl rfl rfl rfl rfl ⟨rfl,rfl,rfl,rfl,rfl⟩ rfl rfl rfl rfl rfl (by kernel_rfl) Tryz.func3 (by kernel_rfl)
  (of_decide_eq_true (by kernel_rfl)) (by unfold Func.isWrapper;first | (rw [if_pos (by decide +kernel)];kernel_rfl) | (rw [if_neg (by decide +kernel)];exact ⟨rfl,rfl⟩))
  (fun os started H enc _=>exprGroups_lifted os started H enc)
theorem exprGroups_card_holds:Rows.ExprGroupsCardSaid :=
 Claim7.holds_tied_plain_at .later [] [.data,.data,.data,.sentinel,.sentinel] true (true,"58a42eb430a4cb324cbeb54b8adb17d13470987004575f691c606e53847a7950") true
  exprGroups_holds (fun _ h=>by cases h) (by kernel_rfl) (fun _ h=>by cases h) exprGroups_row_tie rfl ⟨rfl,rfl⟩ (by kernel_rfl) rfl
  (fun f fn hf hfn=>by
   obtain rfl:f=3:=Option.some.inj ((show Tryz.prog.funcNamed "surety/suretylaw08.ExprGroups"=some 3 by kernel_rfl).symm.trans hf) |>.symm
   obtain rfl:fn=Tryz.f3:=(Option.some.inj (Tryz.func3.symm.trans hfn)).symm
   exact ⟨by kernel_rfl,fun j t ht=>by
    rw [Tryz.params3] at ht
    have hall:∀t∈[9,5],Tryz.prog.wantsStandIn t=false:=by
     intro t ht
     simp only [List.mem_cons,List.not_mem_nil,or_false] at ht
     rcases ht with rfl | rfl<;>kernel_rfl
    exact hall t (List.mem_of_getElem? (i:=j) (by simpa using ht))⟩)
  (by kernel_rfl)
#print axioms exprGroups_card_holds
end Go.Proofs.YtcgbgcconigdbaaGreatDoor
