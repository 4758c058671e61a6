/-
  NARROWER THAN 'FOR EVERY INPUT', by the rows' own cells (each row's printed sentence says how): ConformMarks: loops, laid.
  DERIVED. THE GIVEN ROWS OF THIS SEAT. 1 by the template 'for every input the law returns true; each argument reads behind the call as it read before'; 0 by the template 'total and deterministic' (their statements: YtibfgggccedmdaaDoorTotals.lean).
  GIVEN WITH THE SEED: the statements are not yours to turn. If you find one false, say at which input.
  Laid BY PROGRAM, IN A SANDBOX (cutbox-rows.mjs): the forced cells as the released guide's own fill.sh prints them over the translation 50e0b6194744b180… (all of the seat's roots in one cut). By AI agents, Wed Nov 11 2026. No macro, syntax, notation, axiom, sorry.
-/
import Derived.Test.YtibfgggccedmdaaDoorChecked
import GoSem.Claim
import GoSem.ClaimJoined
import GoSem.ClaimMapViews
import Derived.JoinedTies
import Derived.KernelRfl
namespace Go.Proofs.YtibfgggccedmdaaDoor
/- THE CELL 'sum', in the pinned program and in every row, IS THE sha256 OF THE DUMP (.gsa) THAT YtibfgggccedmdaaDoorProg.lean LOADS. Nothing in Lean hashes anything: it is a label: what it is worth is what the hold of that sum in a sandbox is worth. -/
noncomputable def Tryd.pinned : Pinned := { name := "ytibfgggccedmdaadoor", sum := "50e0b6194744b1802d361412b072df8c8a31ce5513142e00c892a5ae5349de85", checked := Tryd.checked }
namespace Rows
def none {H : Type} : Left H := { results := [], args := [] }

/- WHAT THE LISTED PACKAGE-LEVEL VARIABLES READ AS WHEN THE CALL BEGINS. Each datum BY PROGRAM (the guide's laid-datum.mjs) off the statement by which the dump's own 'gosem.cut.vars' lays the variable. In a bare row this is a premise. The card (YtibfgggccedmdaaDoorCards.lean) ties it to the program's text. -/
def laid_surety_schema_number {H : Type} : DataW H := .agg [.lit (.int .i64 2), .lit (.int .i64 0)]
def laid_surety_schema_texts {H : Type} : DataW H := .agg [.lit (.int .i64 3), .lit (.int .i64 0)]
def laid_surety_schema_ints {H : Type} : DataW H := .agg [.lit (.int .i64 4), .lit (.int .i64 2)]
def laid_surety_schema_list {H : Type} : DataW H := .agg [.lit (.int .i64 4), .lit (.int .i64 3)]
def laid_surety_schema_tags {H : Type} : DataW H := .agg [.lit (.int .i64 5), .lit (.int .i64 3)]
def laid_surety_schema_maps {H : Type} : DataW H := .agg [.lit (.int .i64 5), .lit (.int .i64 0)]

/-- 'suretylaw23.ConformMarks': WHATEVER THE INPUT: true; the input reads as it did. -/
def conformMarksSpec : ChangeSpec := { name := "conformMarks", fn := fun _ => fun
  | [d1, d2, d3] => { results := [.lit (.bool true)], args := [d1, d2, d3] }
  | _ => none }
def conformMarksRow : OpenClaim := { program := "ytibfgggccedmdaadoor", sum := "50e0b6194744b1802d361412b072df8c8a31ce5513142e00c892a5ae5349de85", func := "surety/suretylaw23.ConformMarks", spec := "conformMarks", unfollowed := true, recurses := true, named := ["surety/schema.texts", "surety/schema.number", "surety/schema.ints", "surety/schema.tags", "surety/schema.maps", "surety/schema.list"], loops := true, plainKeys := false, apart := false, laid := [("surety/schema.number", laid_surety_schema_number), ("surety/schema.texts", laid_surety_schema_texts), ("surety/schema.ints", laid_surety_schema_ints), ("surety/schema.list", laid_surety_schema_list), ("surety/schema.tags", laid_surety_schema_tags), ("surety/schema.maps", laid_surety_schema_maps)] }
def ConformMarksSaid : Prop := conformMarksRow.holds Tryd.pinned (OpenSpec.ofChange conformMarksSpec)

/-- ITS FALSE NEIGHBOUR: 'it returns false'. Refute it at one input. -/
def conformMarksWrong : ChangeSpec := { name := "conformMarks", fn := fun _ => fun
  | [d1, d2, d3] => { results := [.lit (.bool false)], args := [d1, d2, d3] }
  | _ => none }
def ConformMarksWrongFalsely : Prop := conformMarksRow.holds Tryd.pinned (OpenSpec.ofChange conformMarksWrong)

/- THE SECOND FORM. 'bulk': how many values and letters a reading holds, each counted each time it is reached (what is shared counts as often as it is met; a slice's spare places count too). A statement '..UptoSaid' is the law's where the arguments, and the package variables that the reading takes, are together of bulk at most 1048576: NARROWER than '..Said'. Prove '..Said' where nothing that the law and all that it calls make is longer than what came in: it says more and counts as full. Else prove '..UptoSaid'. A law counts once. -/
mutual
def uptoBulk {H : Type} : DataW H → Nat
  | .lit (.string bytes) => bytes.length + 1
  | .lit _ => 1
  | .nil => 1
  | .ptr d => uptoBulk d + 1
  | .slice elems spare => uptoBulkAll elems + uptoBulkAll spare + 1
  | .agg parts => uptoBulkAll parts + 1
  | .iface _ d => uptoBulk d + 1
  | .map entries => uptoBulkEntries entries + 1
  | .held _ => 1
def uptoBulkAll {H : Type} : List (DataW H) → Nat
  | [] => 0
  | d :: r => uptoBulk d + uptoBulkAll r
def uptoBulkEntries {H : Type} : List (Lit × DataW H) → Nat
  | [] => 0
  | x :: r => uptoBulkEntry x + uptoBulkEntries r
def uptoBulkEntry {H : Type} : Lit × DataW H → Nat
  | (.string bytes, d) => bytes.length + uptoBulk d + 1
  | (_, d) => uptoBulk d + 1
 end
def uptoSmall : (H : Type) → List (DataW H) → Bool := fun _ ds => decide (uptoBulkAll ds ≤ 1048576)
def OpenSpec.upto (s : _root_.Go.ChangeSpec) : _root_.Go.OpenSpec := { _root_.Go.OpenSpec.ofChange s with cond := some uptoSmall }

/-- 'suretylaw23.ConformMarks', WHERE WHAT IT READS IS OF BULK AT MOST 1048576: true; the input reads as it did. -/
def conformMarksUptoRow : OpenClaim := { program := "ytibfgggccedmdaadoor", sum := "50e0b6194744b1802d361412b072df8c8a31ce5513142e00c892a5ae5349de85", func := "surety/suretylaw23.ConformMarks", spec := "conformMarks", unfollowed := true, recurses := true, named := ["surety/schema.texts", "surety/schema.number", "surety/schema.ints", "surety/schema.tags", "surety/schema.maps", "surety/schema.list"], loops := true, plainKeys := false, apart := false, laid := [("surety/schema.number", laid_surety_schema_number), ("surety/schema.texts", laid_surety_schema_texts), ("surety/schema.ints", laid_surety_schema_ints), ("surety/schema.list", laid_surety_schema_list), ("surety/schema.tags", laid_surety_schema_tags), ("surety/schema.maps", laid_surety_schema_maps)], narrowed := true }
def ConformMarksUptoSaid : Prop := conformMarksUptoRow.holds Tryd.pinned (OpenSpec.upto conformMarksSpec)

end Rows
end Go.Proofs.YtibfgggccedmdaaDoor
