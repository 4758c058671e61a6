/-
  NARROWER THAN 'FOR EVERY INPUT', by the rows' own cells (each row's printed sentence says how): DiffChooses: loops, laid · DiffKeeps: loops, laid · DiffSteps: laid.
  DERIVED. THE GIVEN ROWS OF THIS SEAT. 3 by the template 'for every input the law returns true; each argument reads behind the call as it read before'; 0 by the template 'total and deterministic' (their statements: YtgningcnnnjjnaaDoorTotals.lean).
  GIVEN WITH THE SEED: the statements are not yours to turn. If you find one false, say at which input.
  Laid BY PROGRAM, IN A SANDBOX (cutbox-rows.mjs): the forced cells as the released guide's own fill.sh prints them over the translation ab732de177f9565d… (all of the seat's roots in one cut). By AI agents, Wed Nov 11 2026. No macro, syntax, notation, axiom, sorry.
-/
import Derived.Test.YtgningcnnnjjnaaDoorChecked
import GoSem.Claim
import GoSem.ClaimJoined
import GoSem.ClaimMapViews
import Derived.JoinedTies
import Derived.KernelRfl
namespace Go.Proofs.YtgningcnnnjjnaaDoor
/- THE CELL 'sum', in the pinned program and in every row, IS THE sha256 OF THE DUMP (.gsa) THAT YtgningcnnnjjnaaDoorProg.lean LOADS. Nothing in Lean hashes anything: it is a label: what it is worth is what the hold of that sum in a sandbox is worth. -/
noncomputable def Tryd.pinned : Pinned := { name := "ytgningcnnnjjnaadoor", sum := "ab732de177f9565deb6f669c6224ead251d0d308ce055b550c805dee89a2bf66", checked := Tryd.checked }
namespace Rows
def none {H : Type} : Left H := { results := [], args := [] }

/- WHAT THE LISTED PACKAGE-LEVEL VARIABLES READ AS WHEN THE CALL BEGINS. Each datum BY PROGRAM (the guide's laid-datum.mjs) off the statement by which the dump's own 'gosem.cut.vars' lays the variable. In a bare row this is a premise. The card (YtgningcnnnjjnaaDoorCards.lean) ties it to the program's text. -/
def laid_surety_schema_number {H : Type} : DataW H := .agg [.lit (.int .i64 2), .lit (.int .i64 0)]
def laid_surety_schema_texts {H : Type} : DataW H := .agg [.lit (.int .i64 3), .lit (.int .i64 0)]
def laid_surety_schema_ints {H : Type} : DataW H := .agg [.lit (.int .i64 4), .lit (.int .i64 2)]
def laid_surety_schema_list {H : Type} : DataW H := .agg [.lit (.int .i64 4), .lit (.int .i64 3)]
def laid_surety_schema_tags {H : Type} : DataW H := .agg [.lit (.int .i64 5), .lit (.int .i64 3)]
def laid_surety_schema_maps {H : Type} : DataW H := .agg [.lit (.int .i64 5), .lit (.int .i64 0)]

/-- 'suretylaw25.DiffChooses': WHATEVER THE INPUT: true; the input reads as it did. -/
def diffChoosesSpec : ChangeSpec := { name := "diffChooses", fn := fun _ => fun
  | [d1, d2, d3, d4, d5] => { results := [.lit (.bool true)], args := [d1, d2, d3, d4, d5] }
  | _ => none }
def diffChoosesRow : OpenClaim := { program := "ytgningcnnnjjnaadoor", sum := "ab732de177f9565deb6f669c6224ead251d0d308ce055b550c805dee89a2bf66", func := "surety/suretylaw25.DiffChooses", spec := "diffChooses", unfollowed := true, recurses := true, named := ["surety/schema.texts", "surety/schema.number", "surety/schema.ints", "surety/schema.tags", "surety/schema.maps", "surety/schema.list"], loops := true, apart := false, laid := [("surety/schema.number", laid_surety_schema_number), ("surety/schema.texts", laid_surety_schema_texts), ("surety/schema.ints", laid_surety_schema_ints), ("surety/schema.list", laid_surety_schema_list), ("surety/schema.tags", laid_surety_schema_tags), ("surety/schema.maps", laid_surety_schema_maps)] }
def DiffChoosesSaid : Prop := diffChoosesRow.holds Tryd.pinned (OpenSpec.ofChange diffChoosesSpec)

/-- ITS FALSE NEIGHBOUR: 'it returns false'. Refute it at one input. -/
def diffChoosesWrong : ChangeSpec := { name := "diffChooses", fn := fun _ => fun
  | [d1, d2, d3, d4, d5] => { results := [.lit (.bool false)], args := [d1, d2, d3, d4, d5] }
  | _ => none }
def DiffChoosesWrongFalsely : Prop := diffChoosesRow.holds Tryd.pinned (OpenSpec.ofChange diffChoosesWrong)

/-- 'suretylaw25.DiffKeeps': WHATEVER THE INPUT: true; the input reads as it did. -/
def diffKeepsSpec : ChangeSpec := { name := "diffKeeps", fn := fun _ => fun
  | [d1, d2, d3, d4] => { results := [.lit (.bool true)], args := [d1, d2, d3, d4] }
  | _ => none }
def diffKeepsRow : OpenClaim := { program := "ytgningcnnnjjnaadoor", sum := "ab732de177f9565deb6f669c6224ead251d0d308ce055b550c805dee89a2bf66", func := "surety/suretylaw25.DiffKeeps", spec := "diffKeeps", unfollowed := true, recurses := true, named := ["surety/schema.texts", "surety/schema.number", "surety/schema.ints", "surety/schema.tags", "surety/schema.maps", "surety/schema.list"], loops := true, apart := false, laid := [("surety/schema.number", laid_surety_schema_number), ("surety/schema.texts", laid_surety_schema_texts), ("surety/schema.ints", laid_surety_schema_ints), ("surety/schema.list", laid_surety_schema_list), ("surety/schema.tags", laid_surety_schema_tags), ("surety/schema.maps", laid_surety_schema_maps)] }
def DiffKeepsSaid : Prop := diffKeepsRow.holds Tryd.pinned (OpenSpec.ofChange diffKeepsSpec)

/-- ITS FALSE NEIGHBOUR: 'it returns false'. Refute it at one input. -/
def diffKeepsWrong : ChangeSpec := { name := "diffKeeps", fn := fun _ => fun
  | [d1, d2, d3, d4] => { results := [.lit (.bool false)], args := [d1, d2, d3, d4] }
  | _ => none }
def DiffKeepsWrongFalsely : Prop := diffKeepsRow.holds Tryd.pinned (OpenSpec.ofChange diffKeepsWrong)

/-- 'suretylaw25.DiffSteps': WHATEVER THE INPUT: true; the input reads as it did. -/
def diffStepsSpec : ChangeSpec := { name := "diffSteps", fn := fun _ => fun
  | [d1, d2, d3, d4] => { results := [.lit (.bool true)], args := [d1, d2, d3, d4] }
  | _ => none }
def diffStepsRow : OpenClaim := { program := "ytgningcnnnjjnaadoor", sum := "ab732de177f9565deb6f669c6224ead251d0d308ce055b550c805dee89a2bf66", func := "surety/suretylaw25.DiffSteps", spec := "diffSteps", unfollowed := true, recurses := true, named := ["surety/schema.texts", "surety/schema.number", "surety/schema.ints", "surety/schema.tags", "surety/schema.maps", "surety/schema.list"], apart := false, laid := [("surety/schema.number", laid_surety_schema_number), ("surety/schema.texts", laid_surety_schema_texts), ("surety/schema.ints", laid_surety_schema_ints), ("surety/schema.list", laid_surety_schema_list), ("surety/schema.tags", laid_surety_schema_tags), ("surety/schema.maps", laid_surety_schema_maps)] }
def DiffStepsSaid : Prop := diffStepsRow.holds Tryd.pinned (OpenSpec.ofChange diffStepsSpec)

/-- ITS FALSE NEIGHBOUR: 'it returns false'. Refute it at one input. -/
def diffStepsWrong : ChangeSpec := { name := "diffSteps", fn := fun _ => fun
  | [d1, d2, d3, d4] => { results := [.lit (.bool false)], args := [d1, d2, d3, d4] }
  | _ => none }
def DiffStepsWrongFalsely : Prop := diffStepsRow.holds Tryd.pinned (OpenSpec.ofChange diffStepsWrong)

/- THE SECOND FORM. 'bulk': how many values and letters a reading holds, each counted each time it is reached (what is shared counts as often as it is met; a slice's spare places count too). A statement '..UptoSaid' is the law's where the arguments, and the package variables that the reading takes, are together of bulk at most 1048576: NARROWER than '..Said'. Prove '..Said' where nothing that the law and all that it calls make is longer than what came in: it says more and counts as full. Else prove '..UptoSaid'. A law counts once. -/
mutual
def uptoBulk {H : Type} : DataW H → Nat
  | .lit (.string bytes) => bytes.length + 1
  | .lit _ => 1
  | .nil => 1
  | .ptr d => uptoBulk d + 1
  | .slice elems spare => uptoBulkAll elems + uptoBulkAll spare + 1
  | .agg parts => uptoBulkAll parts + 1
  | .iface _ d => uptoBulk d + 1
  | .map entries => uptoBulkEntries entries + 1
  | .held _ => 1
def uptoBulkAll {H : Type} : List (DataW H) → Nat
  | [] => 0
  | d :: r => uptoBulk d + uptoBulkAll r
def uptoBulkEntries {H : Type} : List (Lit × DataW H) → Nat
  | [] => 0
  | x :: r => uptoBulkEntry x + uptoBulkEntries r
def uptoBulkEntry {H : Type} : Lit × DataW H → Nat
  | (.string bytes, d) => bytes.length + uptoBulk d + 1
  | (_, d) => uptoBulk d + 1
 end
def uptoSmall : (H : Type) → List (DataW H) → Bool := fun _ ds => decide (uptoBulkAll ds ≤ 1048576)
def OpenSpec.upto (s : _root_.Go.ChangeSpec) : _root_.Go.OpenSpec := { _root_.Go.OpenSpec.ofChange s with cond := some uptoSmall }

/-- 'suretylaw25.DiffChooses', WHERE WHAT IT READS IS OF BULK AT MOST 1048576: true; the input reads as it did. -/
def diffChoosesUptoRow : OpenClaim := { program := "ytgningcnnnjjnaadoor", sum := "ab732de177f9565deb6f669c6224ead251d0d308ce055b550c805dee89a2bf66", func := "surety/suretylaw25.DiffChooses", spec := "diffChooses", unfollowed := true, recurses := true, named := ["surety/schema.texts", "surety/schema.number", "surety/schema.ints", "surety/schema.tags", "surety/schema.maps", "surety/schema.list"], loops := true, apart := false, laid := [("surety/schema.number", laid_surety_schema_number), ("surety/schema.texts", laid_surety_schema_texts), ("surety/schema.ints", laid_surety_schema_ints), ("surety/schema.list", laid_surety_schema_list), ("surety/schema.tags", laid_surety_schema_tags), ("surety/schema.maps", laid_surety_schema_maps)], narrowed := true }
def DiffChoosesUptoSaid : Prop := diffChoosesUptoRow.holds Tryd.pinned (OpenSpec.upto diffChoosesSpec)

/-- 'suretylaw25.DiffKeeps', WHERE WHAT IT READS IS OF BULK AT MOST 1048576: true; the input reads as it did. -/
def diffKeepsUptoRow : OpenClaim := { program := "ytgningcnnnjjnaadoor", sum := "ab732de177f9565deb6f669c6224ead251d0d308ce055b550c805dee89a2bf66", func := "surety/suretylaw25.DiffKeeps", spec := "diffKeeps", unfollowed := true, recurses := true, named := ["surety/schema.texts", "surety/schema.number", "surety/schema.ints", "surety/schema.tags", "surety/schema.maps", "surety/schema.list"], loops := true, apart := false, laid := [("surety/schema.number", laid_surety_schema_number), ("surety/schema.texts", laid_surety_schema_texts), ("surety/schema.ints", laid_surety_schema_ints), ("surety/schema.list", laid_surety_schema_list), ("surety/schema.tags", laid_surety_schema_tags), ("surety/schema.maps", laid_surety_schema_maps)], narrowed := true }
def DiffKeepsUptoSaid : Prop := diffKeepsUptoRow.holds Tryd.pinned (OpenSpec.upto diffKeepsSpec)

/-- 'suretylaw25.DiffSteps', WHERE WHAT IT READS IS OF BULK AT MOST 1048576: true; the input reads as it did. -/
def diffStepsUptoRow : OpenClaim := { program := "ytgningcnnnjjnaadoor", sum := "ab732de177f9565deb6f669c6224ead251d0d308ce055b550c805dee89a2bf66", func := "surety/suretylaw25.DiffSteps", spec := "diffSteps", unfollowed := true, recurses := true, named := ["surety/schema.texts", "surety/schema.number", "surety/schema.ints", "surety/schema.tags", "surety/schema.maps", "surety/schema.list"], apart := false, laid := [("surety/schema.number", laid_surety_schema_number), ("surety/schema.texts", laid_surety_schema_texts), ("surety/schema.ints", laid_surety_schema_ints), ("surety/schema.list", laid_surety_schema_list), ("surety/schema.tags", laid_surety_schema_tags), ("surety/schema.maps", laid_surety_schema_maps)], narrowed := true }
def DiffStepsUptoSaid : Prop := diffStepsUptoRow.holds Tryd.pinned (OpenSpec.upto diffStepsSpec)

end Rows
end Go.Proofs.YtgningcnnnjjnaaDoor
