/-
  THE ROW's FACTS, each by itself: all at once they want more memory than a process has.
-/
import Derived.Test.YtlnkjdedeegajaaGreatDoorCards
import Derived.Test.YtlnkjdedeegajaaGreatDoorProg
import Derived.Stop.Joined
import Derived.KernelRfl
namespace Go.Proofs.YtlnkjdedeegajaaGreatDoor
set_option maxRecDepth 100000
theorem facts_a:(Rows.evalFuelRow.inPlace==Tryz.pinned.checked.prog.inPlace 3)=true:=by kernel_rfl
theorem facts_b:(Rows.evalFuelRow.unfollowed==Tryz.pinned.checked.prog.unfollowed 3)=true:=by kernel_rfl
theorem facts_c:(Rows.evalFuelRow.recurses==Tryz.pinned.checked.prog.recurses 3)=true:=by kernel_rfl
theorem facts_d:(Rows.evalFuelRow.named==Tryz.pinned.checked.prog.varsNamed 3)=true:=by kernel_rfl
theorem facts:joinedFacts Tryz.pinned.checked.prog 3 Tryz.f3 Rows.evalFuelSpec Rows.evalFuelRow=true:=by
  unfold joinedFacts
  rw [facts_a,facts_b,facts_c,facts_d]
  kernel_rfl
end Go.Proofs.YtlnkjdedeegajaaGreatDoor
