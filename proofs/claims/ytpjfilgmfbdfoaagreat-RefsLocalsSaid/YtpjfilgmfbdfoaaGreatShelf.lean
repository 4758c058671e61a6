/-
  THE KIT's CONTRACTS LAID AT THIS SEAT, in plain words (printed by the kit's own tools).
-/
import Derived.Shelf.SlSortCmp.NoneTotal
import Derived.Test.YtpjfilgmfbdfoaaGreatProg
namespace Go.Proofs
open Go.Shelf
def Tryz.sortLr_ren:Go.Shelf.Ren:=⟨fun | 6=>47 | 15=>71 | 14=>70 | 28=>91 | 29=>92 | 20=>83 | 21=>84 | 22=>85 | 23=>86 | 24=>87 | 25=>88 | 26=>89 | 27=>90 | 46=>96 | 47=>97 | 48=>98 | 49=>99 | 50=>100 | 57=>107 | n=>n,fun | 22=>39 | 24=>54 | 25=>77 | 3=>3 | 39=>151 | 0=>0 | 53=>174 | 55=>152 | 4=>4 | 46=>167 | 45=>166 | 50=>171 | 5=>5 | 9=>9 | 66=>179 | 70=>183 | 76=>191 | 77=>192 | n=>n,fun | n=>n⟩
theorem Tryz.sortLr:Go.Proofs.SlLaysF0.n6 Tryz.prog Tryz.sortLr_ren:={
  mixed:=by kernel_rfl
  f6:=⟨Tryz.f47.name,by decide,Tryz.func47.trans (congrArg some (by kernel_rfl))⟩
  f14:=⟨Tryz.f70.name,by decide,Tryz.func70.trans (congrArg some (by kernel_rfl))⟩
  f15:=Tryz.func71.trans (congrArg some (by kernel_rfl))
  f20:=⟨Tryz.f83.name,by decide,Tryz.func83.trans (congrArg some (by kernel_rfl))⟩
  f21:=⟨Tryz.f84.name,by decide,Tryz.func84.trans (congrArg some (by kernel_rfl))⟩
  f22:=⟨Tryz.f85.name,by decide,Tryz.func85.trans (congrArg some (by kernel_rfl))⟩
  f23:=⟨Tryz.f86.name,by decide,Tryz.func86.trans (congrArg some (by kernel_rfl))⟩
  f24:=⟨Tryz.f87.name,by decide,Tryz.func87.trans (congrArg some (by kernel_rfl))⟩
  f25:=⟨Tryz.f88.name,by decide,Tryz.func88.trans (congrArg some (by kernel_rfl))⟩
  f26:=⟨Tryz.f89.name,by decide,Tryz.func89.trans (congrArg some (by kernel_rfl))⟩
  f27:=⟨Tryz.f90.name,by decide,Tryz.func90.trans (congrArg some (by kernel_rfl))⟩
  f28:=Tryz.func91.trans (congrArg some (by kernel_rfl))
  f29:=Tryz.func92.trans (congrArg some (by kernel_rfl))
  f46:=⟨Tryz.f96.name,by decide,Tryz.func96.trans (congrArg some (by kernel_rfl))⟩
  f47:=Tryz.func97.trans (congrArg some (by kernel_rfl))
  f48:=Tryz.func98.trans (congrArg some (by kernel_rfl))
  f49:=⟨Tryz.f99.name,by decide,Tryz.func99.trans (congrArg some (by kernel_rfl))⟩
  f50:=⟨Tryz.f100.name,by decide,Tryz.func100.trans (congrArg some (by kernel_rfl))⟩
  f57:=⟨Tryz.f107.name,by decide,Tryz.func107.trans (congrArg some (by kernel_rfl))⟩
  t0:=Tryz.underlying0
  a0:=Tryz.isAgg0
  z0:=Tryz.sizeOf0
  v0:=Tryz.zeroValue0
  t3:=Tryz.underlying3
  a3:=Tryz.isAgg3
  z3:=Tryz.sizeOf3
  v3:=Tryz.zeroValue3
  t4:=Tryz.underlying4
  a4:=Tryz.isAgg4
  z4:=Tryz.sizeOf4
  v4:=Tryz.zeroValue4
  t5:=Tryz.underlying5
  a5:=Tryz.isAgg5
  z5:=Tryz.sizeOf5
  v5:=Tryz.zeroValue5
  t9:=Tryz.underlying9
  a9:=Tryz.isAgg9
  z9:=Tryz.sizeOf9
  v9:=Tryz.zeroValue9
  t22:=Tryz.underlying39
  a22:=Tryz.isAgg39
  z22:=Tryz.sizeOf39
  v22:=Tryz.zeroValue39
  t25:=Tryz.underlying77
  a25:=Tryz.isAgg77
  z25:=Tryz.sizeOf77
  v25:=Tryz.zeroValue77
  t39:=Tryz.underlying151
  a39:=Tryz.isAgg151
  z39:=Tryz.sizeOf151
  v39:=Tryz.zeroValue151
  t45:=Tryz.underlying166
  a45:=Tryz.isAgg166
  z45:=Tryz.sizeOf166
  v45:=Tryz.zeroValue166
  t46:=Tryz.underlying167
  a46:=Tryz.isAgg167
  z46:=Tryz.sizeOf167
  v46:=Tryz.zeroValue167
  t50:=Tryz.underlying171
  a50:=Tryz.isAgg171
  z50:=Tryz.sizeOf171
  v50:=Tryz.zeroValue171
  t53:=Tryz.underlying174
  a53:=Tryz.isAgg174
  z53:=Tryz.sizeOf174
  v53:=Tryz.zeroValue174
  t55:=Tryz.underlying152
  a55:=Tryz.isAgg152
  z55:=Tryz.sizeOf152
  v55:=Tryz.zeroValue152
  t66:=Tryz.underlying179
  a66:=Tryz.isAgg179
  z66:=Tryz.sizeOf179
  v66:=Tryz.zeroValue179
  t70:=Tryz.underlying183
  a70:=Tryz.isAgg183
  z70:=Tryz.sizeOf183
  v70:=Tryz.zeroValue183
  t76:=Tryz.underlying191
  a76:=Tryz.isAgg191
  z76:=Tryz.sizeOf191
  v76:=Tryz.zeroValue191
  t77:=Tryz.underlying192
  a77:=Tryz.isAgg192
  z77:=Tryz.sizeOf192
  v77:=Tryz.zeroValue192 }
end Go.Proofs
