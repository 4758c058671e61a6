/-
  THE CARD OF 'suretylaw12.DeclSame' HOLDS: whatever the texts, the kind, the name, the law returns true, and its arguments read as they did; the listed variables are tied to the program's text.
-/
import Derived.Test.YtobleaffkomcmaaGreatDoorDSame
import Derived.Test.YtobleaffkomcmaaGreatDoorLaid
import Derived.Test.YtobleaffkomcmaaGreatDoorCards
import Derived.Test.YtobleaffkomcmaaGreatDoorTie
import Derived.ProofKit
import Derived.LaidLaws
import Derived.LaidHandle
import Derived.Stop.Joined
import Derived.SevenTiedAt
namespace Go.Proofs.YtobleaffkomcmaaGreatDoor
open Go.Eng Go.RowKit Go.ChangeShapes Go.WideShapes
set_option maxRecDepth 100000
theorem declSame_lifted (os:Os) (started:os.Started) (H:Type) (enc:TypeId×Value→H) :
    ReturnsInHanded {} Tryz.checked os 3 .any (fun w args=>(Rows.declSameSpec.pre enc Tryz.prog Tryz.f3 [] false w args∧laidMetH Tryz.prog laid9 w)∧sizedMet enc Tryz.prog Tryz.f3 (OpenSpec.ofChange Rows.declSameSpec) false w args)
      (Rows.declSameSpec.post enc Tryz.prog Tryz.f3 false true false false):=by
  refine returnsInHanded_of_change_and (C:=Tryz.checked) (X:=fun w _=>laidMetH Tryz.prog laid9 w) (fun _ _ _ hh h=>h.of_heap hh) ownKnobs started (by kernel_rfl) Tryz.func3
    (ChangeSpec.witness_shaped (enc:=enc) (C:=Tryz.checked) (os:=os) (X:=fun w _=>laidMetH Tryz.prog laid9 w) false (World.doorLaid Tryz.prog 400 os)
      #[.string ⟨#[]⟩,.string ⟨#[]⟩,.string ⟨#[]⟩,.string ⟨#[]⟩] 8 rfl (World.shaped_of_RefB (by kernel_rfl) (by kernel_rfl)) (by kernel_rfl) (by kernel_rfl) (by kernel_rfl) (door_met os _)) ?_
  intro W base args ds gs before hval0 hW _ hwt hL _
  have hval:∀(j:Nat) t v,Tryz.f3.params[j]?=some t→args[j]?=some v→Value.okWide Tryz.prog W .any base t v:=hval0
  have hW':=hW
  obtain ⟨p,q,hA0,hV,hpq,hfz,hnd⟩:=hW'
  have hA:DataW.TrodAll enc Tryz.prog W 0 (fun _=>true) true Tryz.f3.params.toList args.toList ds p:=hA0
  rw [Tryz.params3] at hA hval
  obtain ⟨v0,vs0,d0,ds0,p0,q0,hargs,rfl,rfl,h0,hr0⟩:=trodAll_cons hA
  obtain ⟨v1,vs1,d1,ds1,p1,q1,rfl,rfl,rfl,h1,hr1⟩:=trodAll_cons hr0
  obtain ⟨v2,vs2,d2,ds2,p2,q2,rfl,rfl,rfl,h2,hr2⟩:=trodAll_cons hr1
  obtain ⟨v3,vs3,d3,ds3,p3,q3,rfl,rfl,rfl,h3,hr3⟩:=trodAll_cons hr2
  obtain ⟨rfl,rfl,rfl⟩:=trodAll_nil hr3
  obtain rfl:args=#[v0,v1,v2,v3]:=by cases args;simp_all
  obtain ⟨rfl,rfl⟩:=trodVars_none hV
  have hwt':(DataW.weightsEach Tryz.prog [9,9,9,9] [d0,d1,d2,d3]).all (fun n=>decide (n≤reachBytes))=true:=hwt
  simp only [DataW.weightsEach,List.all_append,Bool.and_eq_true] at hwt'
  obtain ⟨w0,w1,w2,w3,_⟩:=hwt'
  obtain ⟨_,⟨s,_,rfl⟩,r0⟩:=arg_cells (emp:=emp) h0 w0 rds
  obtain ⟨_,⟨t,_,rfl⟩,r1⟩:=arg_cells (emp:=emp) h1 w1 rds
  obtain ⟨_,⟨k,_,rfl⟩,r2⟩:=arg_cells (emp:=emp) h2 w2 rds
  obtain ⟨_,⟨n,_,rfl⟩,r3⟩:=arg_cells (emp:=emp) h3 w3 rds
  have a0:=arg_one (show shapeT Tryz.prog 9=1 by kernel_rfl) (hval 0 9 v0 rfl rfl) r0
  have a1:=arg_one (show shapeT Tryz.prog 9=1 by kernel_rfl) (hval 1 9 v1 rfl rfl) r1
  have a2:=arg_one (show shapeT Tryz.prog 9=1 by kernel_rfl) (hval 2 9 v2 rfl rfl) r2
  have a3:=arg_one (show shapeT Tryz.prog 9=1 by kernel_rfl) (hval 3 9 v3 rfl rfl) r3
  have hs:=DS.same_sound s t k n W (fun _=>False) #[v0,v1,v2,v3] (glob_ok hL) (fun _ h=>h.elim) rfl (fun i v c hv hc=>by
    match i,hv,hc with
    | 0,hv,hc=>simp only [List.getElem?_cons_zero,Option.some.injEq] at hc;simp at hv;subst hv hc;exact a0
    | 1,hv,hc=>simp only [List.getElem?_cons_succ,List.getElem?_cons_zero,Option.some.injEq] at hc;simp at hv;subst hv hc;exact a1
    | 2,hv,hc=>simp only [List.getElem?_cons_succ,List.getElem?_cons_zero,Option.some.injEq] at hc;simp at hv;subst hv hc;exact a2
    | 3,hv,hc=>simp only [List.getElem?_cons_succ,List.getElem?_cons_zero,Option.some.injEq] at hc;simp at hv;subst hv hc;exact a3
    | i+4,hv,hc=>simp at hc)
  refine (calls_of Tryz.func3 (by kernel_rfl) (by kernel_rfl) hs).mono fun e W' ⟨v,he,hr,hb,_⟩=>⟨v,he,?_⟩
  cases hr
  exact close_true laidOut (by
    rw [Tryz.params3]
    intro t ht
    simp only [List.mem_cons,List.not_mem_nil,or_false] at ht
    rcases ht with rfl | rfl | rfl | rfl<;>exact ⟨by kernel_rfl,of_decide_eq_true (by kernel_rfl)⟩) (tb:=4) (by kernel_rfl) Tryz.underlying4 hW rfl rfl hb
theorem declSame_holds:Rows.DeclSameSaid :=
  OpenClaim.holds_of_wide 3 Tryz.f3 rfl rfl rfl rfl rfl rfl rfl ⟨rfl,rfl,rfl,rfl,rfl⟩ rfl rfl rfl rfl rfl (by kernel_rfl) Tryz.func3 (by kernel_rfl)
    (of_decide_eq_true (by kernel_rfl)) (by unfold Func.isWrapper;first | (rw [if_pos (by decide +kernel)];kernel_rfl) | (rw [if_neg (by decide +kernel)];exact ⟨rfl,rfl⟩))
    (fun os started H enc _=>declSame_lifted os started H enc)
theorem declSame_card_holds:Rows.DeclSameCardSaid :=
  Claim7.holds_tied_plain_at .later [] [.data,.data,.data,.sentinel,.sentinel,.data,.data,.data,.data,.data,.data] true (true,"c544af4dda79067e162ee959a7a6d52adb924160eae71e5426c63efd19939907") true
    declSame_holds (fun _ h=>by cases h) (by kernel_rfl) (fun _ h=>by cases h) declSame_row_tie rfl ⟨rfl,rfl⟩ (by kernel_rfl) rfl
    (fun f fn hf hfn=>by
      obtain rfl:f=3:=Option.some.inj ((show Tryz.prog.funcNamed "surety/suretylaw12.DeclSame"=some 3 by kernel_rfl).symm.trans hf) |>.symm
      obtain rfl:fn=Tryz.f3:=(Option.some.inj (Tryz.func3.symm.trans hfn)).symm
      exact ⟨by kernel_rfl,fun j t ht=>by
        rw [Tryz.params3] at ht
        have hall:∀t∈[9,9,9,9],Tryz.prog.wantsStandIn t=false:=by
          intro t ht
          simp only [List.mem_cons,List.not_mem_nil,or_false] at ht
          rcases ht with rfl | rfl | rfl | rfl<;>kernel_rfl
        exact hall t (List.mem_of_getElem? (i:=j) (by simpa using ht))⟩)
    (by kernel_rfl)
#print axioms declSame_card_holds
end Go.Proofs.YtobleaffkomcmaaGreatDoor
