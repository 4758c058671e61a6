/-
  THE TYPES OF THE TABLE's TEXTS, by the program and by the document: evaluated.
-/
import Derived.Test.YtjldjhcadcofoaaGreatDoorRow
namespace Go.Proofs.YtjldjhcadcofoaaGreatDoor
open Go.Eng

set_option maxRecDepth 100000

theorem eTyp0 : evF tell0 noTL noL 12 Tryz.f35 [.str (ty 0).1] = some (.tup [.agg [dI (ty 0).2.1, dI (ty 0).2.2], dI 0]) := by kernel_rfl
theorem eTyp1 : evF tell0 noTL noL 12 Tryz.f35 [.str (ty 1).1] = some (.tup [.agg [dI (ty 1).2.1, dI (ty 1).2.2], dI 0]) := by kernel_rfl
theorem eTyp2 : evF tell0 noTL noL 12 Tryz.f35 [.str (ty 2).1] = some (.tup [.agg [dI (ty 2).2.1, dI (ty 2).2.2], dI 0]) := by kernel_rfl
theorem eTyp3 : evF tell0 noTL noL 12 Tryz.f35 [.str (ty 3).1] = some (.tup [.agg [dI (ty 3).2.1, dI (ty 3).2.2], dI 0]) := by kernel_rfl
theorem eTyp4 : evF tell0 noTL noL 12 Tryz.f35 [.str (ty 4).1] = some (.tup [.agg [dI (ty 4).2.1, dI (ty 4).2.2], dI 0]) := by kernel_rfl
theorem eTyp5 : evF tell0 noTL noL 12 Tryz.f35 [.str (ty 5).1] = some (.tup [.agg [dI (ty 5).2.1, dI (ty 5).2.2], dI 0]) := by kernel_rfl
theorem eTyp6 : evF tell0 noTL noL 12 Tryz.f35 [.str (ty 6).1] = some (.tup [.agg [dI (ty 6).2.1, dI (ty 6).2.2], dI 0]) := by kernel_rfl
theorem eTyp7 : evF tell0 noTL noL 12 Tryz.f35 [.str (ty 7).1] = some (.tup [.agg [dI (ty 7).2.1, dI (ty 7).2.2], dI 0]) := by kernel_rfl
theorem eDoc0 : evF tell0 noTL noL 12 Tryz.f8 [.str (ty 0).1] = some (.tup [.agg [dI (ty 0).2.1, dI (ty 0).2.2], dI 0]) := by kernel_rfl
theorem eDoc1 : evF tell0 noTL noL 12 Tryz.f8 [.str (ty 1).1] = some (.tup [.agg [dI (ty 1).2.1, dI (ty 1).2.2], dI 0]) := by kernel_rfl
theorem eDoc2 : evF tell0 noTL noL 12 Tryz.f8 [.str (ty 2).1] = some (.tup [.agg [dI (ty 2).2.1, dI (ty 2).2.2], dI 0]) := by kernel_rfl
theorem eDoc3 : evF tell0 noTL noL 12 Tryz.f8 [.str (ty 3).1] = some (.tup [.agg [dI (ty 3).2.1, dI (ty 3).2.2], dI 0]) := by kernel_rfl
theorem eDoc4 : evF tell0 noTL noL 12 Tryz.f8 [.str (ty 4).1] = some (.tup [.agg [dI (ty 4).2.1, dI (ty 4).2.2], dI 0]) := by kernel_rfl
theorem eDoc5 : evF tell0 noTL noL 12 Tryz.f8 [.str (ty 5).1] = some (.tup [.agg [dI (ty 5).2.1, dI (ty 5).2.2], dI 0]) := by kernel_rfl
theorem eDoc6 : evF tell0 noTL noL 12 Tryz.f8 [.str (ty 6).1] = some (.tup [.agg [dI (ty 6).2.1, dI (ty 6).2.2], dI 0]) := by kernel_rfl
theorem eDoc7 : evF tell0 noTL noL 12 Tryz.f8 [.str (ty 7).1] = some (.tup [.agg [dI (ty 7).2.1, dI (ty 7).2.2], dI 0]) := by kernel_rfl
end Go.Proofs.YtjldjhcadcofoaaGreatDoor
