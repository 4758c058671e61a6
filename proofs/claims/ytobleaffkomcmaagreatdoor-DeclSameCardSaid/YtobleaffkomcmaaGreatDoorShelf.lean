/-
  THE KIT's CONTRACTS LAID AT THIS SEAT, in plain words (printed by the kit's own tools).
-/
import Derived.Shelf.Strings.IndexAny
import Derived.Shelf.Strings.IndexAnyAll
import Derived.Test.YtobleaffkomcmaaGreatDoorProg
namespace Go.Proofs
open Go.Shelf
def Tryz.lays153_ren:Go.Shelf.Ren:=⟨fun | 153=>190 | 152=>204 | 226=>205 | 227=>206 | 228=>207 | 137=>105 | 119=>214 | 224=>180 | 225=>179 | 217=>137 | 266=>164 | n=>n,fun | 9=>9 | 3=>3 | 4=>4 | 5=>5 | 21=>21 | 117=>284 | 116=>283 | 0=>0 | 46=>181 | 124=>292 | n=>n,fun | n=>n⟩
theorem Tryz.lays153:Go.Proofs.Lays.n153 Tryz.prog Tryz.lays153_ren:={
  mixed:=by kernel_rfl
  f119:=Tryz.func214.trans (congrArg some (by kernel_rfl))
  f137:=Tryz.func105.trans (congrArg some (by kernel_rfl))
  f152:=Tryz.func204.trans (congrArg some (by kernel_rfl))
  f153:=Tryz.func190.trans (congrArg some (by kernel_rfl))
  f217:=Tryz.func137.trans (congrArg some (by kernel_rfl))
  f224:=Tryz.func180.trans (congrArg some (by kernel_rfl))
  f225:=Tryz.func179.trans (congrArg some (by kernel_rfl))
  f226:=Tryz.func205.trans (congrArg some (by kernel_rfl))
  f227:=Tryz.func206.trans (congrArg some (by kernel_rfl))
  f228:=Tryz.func207.trans (congrArg some (by kernel_rfl))
  f266:=Tryz.func164.trans (congrArg some (by kernel_rfl))
  t0:=Tryz.underlying0
  a0:=Tryz.isAgg0
  z0:=Tryz.sizeOf0
  v0:=Tryz.zeroValue0
  t3:=Tryz.underlying3
  a3:=Tryz.isAgg3
  z3:=Tryz.sizeOf3
  v3:=Tryz.zeroValue3
  t4:=Tryz.underlying4
  a4:=Tryz.isAgg4
  z4:=Tryz.sizeOf4
  v4:=Tryz.zeroValue4
  t5:=Tryz.underlying5
  a5:=Tryz.isAgg5
  z5:=Tryz.sizeOf5
  v5:=Tryz.zeroValue5
  t9:=Tryz.underlying9
  a9:=Tryz.isAgg9
  z9:=Tryz.sizeOf9
  v9:=Tryz.zeroValue9
  t21:=Tryz.underlying21
  a21:=Tryz.isAgg21
  z21:=Tryz.sizeOf21
  v21:=Tryz.zeroValue21
  t46:=Tryz.underlying181
  a46:=Tryz.isAgg181
  z46:=Tryz.sizeOf181
  v46:=Tryz.zeroValue181
  t116:=Tryz.underlying283
  a116:=Tryz.isAgg283
  z116:=Tryz.sizeOf283
  t117:=Tryz.underlying284
  a117:=Tryz.isAgg284
  z117:=Tryz.sizeOf284
  v117:=Tryz.zeroValue284
  t124:=Tryz.underlying292
  a124:=Tryz.isAgg292
  z124:=Tryz.sizeOf292
  v124:=Tryz.zeroValue292 }
end Go.Proofs
