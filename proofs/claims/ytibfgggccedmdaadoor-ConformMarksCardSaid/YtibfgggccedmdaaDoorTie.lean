/-
  DERIVED. GIVEN WITH THE SEED: THE PROGRAM's TIES (one call each: nine closed facts by the kernel) AND EACH ROW's TIE, after the 31st guide's Derived/Test/Toyas{Tie, Card}.lean. No idea stands in it: it is a product of the set-up. Laid BY PROGRAM, IN A SANDBOX (cutbox-door.mjs). By AI agents, Wed Nov 11 2026. No macro, syntax, notation, axiom, sorry.
-/
import Derived.Test.YtibfgggccedmdaaDoorRows
import Derived.LaidByTextLater
import Derived.SevenTiedAt
import Derived.LaidSub
import Derived.LaidOnce
namespace Go.Proofs.YtibfgggccedmdaaDoor
open Go
set_option maxRecDepth 100000
theorem seatTie1 : Tryd.prog.laidByTextLater [("surety/schema.number", Rows.laid_surety_schema_number), ("surety/schema.texts", Rows.laid_surety_schema_texts), ("surety/schema.ints", Rows.laid_surety_schema_ints), ("surety/schema.list", Rows.laid_surety_schema_list), ("surety/schema.tags", Rows.laid_surety_schema_tags), ("surety/schema.maps", Rows.laid_surety_schema_maps)] [.data, .data, .data, .data, .data, .data] true :=
  Program.laidByTextLater_by_one 39 8 3 (by kernel_rfl) (by kernel_rfl) (by kernel_rfl) (by kernel_rfl) (by kernel_rfl) (by kernel_rfl) (fun _ _ => by kernel_rfl)
theorem noOwnUnsafe : Tryd.pinned.checked.prog.headLifts.contains "ownunsafe" = false := by kernel_rfl
theorem tie : Tryd.prog.laidByTextLater [("surety/schema.number", Rows.laid_surety_schema_number), ("surety/schema.texts", Rows.laid_surety_schema_texts), ("surety/schema.ints", Rows.laid_surety_schema_ints), ("surety/schema.list", Rows.laid_surety_schema_list), ("surety/schema.tags", Rows.laid_surety_schema_tags), ("surety/schema.maps", Rows.laid_surety_schema_maps)] [.data, .data, .data, .data, .data, .data] true :=
  Program.laidByTextLater.sub seatTie1 ["surety/schema.number", "surety/schema.texts", "surety/schema.ints", "surety/schema.list", "surety/schema.tags", "surety/schema.maps"] (by kernel_rfl) (by kernel_rfl)
theorem conformMarks_row_tie : Rows.conformMarksRow.laidByTextAt .later Tryd.pinned [.data, .data, .data, .data, .data, .data] true :=
  OpenClaim.laidByTextAt_later rfl rfl tie noOwnUnsafe
theorem conformMarksUpto_row_tie : Rows.conformMarksUptoRow.laidByTextAt .later Tryd.pinned [.data, .data, .data, .data, .data, .data] true :=
  OpenClaim.laidByTextAt_later rfl rfl tie noOwnUnsafe
end Go.Proofs.YtibfgggccedmdaaDoor
