/-
  READING AN OBJECT: the program's Get and the document's read the same.
-/
import Derived.Test.YtgngobcmfflcpaaDoorCtx2
namespace Go.Proofs.YtgngobcmfflcpaaDoor
open Go.Eng

set_option maxRecDepth 100000

noncomputable def tRG : Eng.Told Pl := tell 9 (pK1 fun a => .bool (okK a)) tStrs
theorem tRG_ok : TOk tRG := tell_ok (pK1_ok refCheckK_sound) tStrs_ok
def zK : KeyR := ⟨[], [], 0, 0, [], 0⟩
def errD (e : Int) : Option (D Pl) := some (.tup [.agg (cK zK), dI 0, dI e])
def roomI (l : List UInt8) (a : Int) : Bool := (true && decide (0 ≤ a) && decide (a ≤ (l.length : Int)) && decide ((l.length : Int) ≤ (l.length : Int))) || false
def restI (l : List UInt8) (a : Int) : List UInt8 := (l.drop a.toNat).take ((l.length : Int).toNat - a.toNat)
def keyI (ty nm : List UInt8) (kd : Int) (k : List UInt8) (big : Int) (x : Nat) : KeyR := ⟨ty, nm, kd, IntKind.i64.wrap big, k, IntKind.u32.wrap (x : Int)⟩
noncomputable def tailR (l ty nm : List UInt8) (kd : Int) (k : List UInt8) (bg at_ : Int) : Option (D Pl) :=
  ck_ (roomI l at_) (bif ((gsO (restI l at_)).2.2 : Int) != 0 then errD (gsO (restI l at_)).2.2 else
    bif (bif decide (bg > 1000) then true else decide (((gsO (restI l at_)).1 : Int) > 4294967295)) then errD 4 else
    bif !(okK (keyI ty nm kd k bg (gsO (restI l at_)).1)) then errD 4 else some (.tup [.agg (cK (keyI ty nm kd k bg (gsO (restI l at_)).1)), dI (IntKind.i64.wrap (at_ + (gsO (restI l at_)).2.1)), dI 0]))
noncomputable def strR (l ty nm : List UInt8) (kd : Int) (bg at_ : Int) : Option (D Pl) :=
  bif kd == 2 then ck_ (roomI l at_) (bif ((gstO (restI l at_)).2.2 : Int) != 0 then errD (gstO (restI l at_)).2.2 else tailR l ty nm kd (gstO (restI l at_)).1 bg (IntKind.i64.wrap (at_ + (gstO (restI l at_)).2.1)))
  else tailR l ty nm kd [] bg at_
noncomputable def numR (l ty nm : List UInt8) (kd : Int) (at_ : Int) : Option (D Pl) :=
  bif kd == 1 then ck_ (roomI l at_) (bif ((gsO (restI l at_)).2.2 : Int) != 0 then errD (gsO (restI l at_)).2.2 else strR l ty nm kd (gsO (restI l at_)).1 (IntKind.i64.wrap (at_ + (gsO (restI l at_)).2.1)))
  else strR l ty nm kd 0 at_
noncomputable def kdRr (l ty nm : List UInt8) (at_ : Int) : Option (D Pl) :=
  bif decide (at_ ≥ (l.length : Int)) then errD 2 else
  ck_ ((decide (0 ≤ at_) && decide (at_ < (l.length : Int))) || false)
  (bif decide (IntKind.i64.wrap ((l.getD at_.toNat 0).toNat : Int) > 2) then errD 4 else numR l ty nm (IntKind.i64.wrap ((l.getD at_.toNat 0).toNat : Int)) (IntKind.i64.wrap (at_ + 1)))
noncomputable def nmR (l ty : List UInt8) (at_ : Int) : Option (D Pl) :=
  ck_ (roomI l at_) (bif ((gstO (restI l at_)).2.2 : Int) != 0 then errD (gstO (restI l at_)).2.2 else kdRr l ty (gstO (restI l at_)).1 (IntKind.i64.wrap (at_ + (gstO (restI l at_)).2.1)))
noncomputable def getR (l : List UInt8) : Option (D Pl) :=
  bif ((gstO l).2.2 : Int) != 0 then errD (gstO l).2.2 else nmR l (gstO l).1 (gstO l).2.1
theorem eRGet (l : List UInt8) : evF tRG noTL noL 1 Tryd.f12 [.pl (pBytes l) .any] = getR l := by kernel_rfl
def okX {α : Type} (l : List UInt8) (x : α × Nat × Nat) : Bool := okR l x.2.1 x.2.2
def keyP (ty nm : List UInt8) (kd : Nat) (k : List UInt8) (i : Int) (x : Nat) : KeyR := ⟨ty, nm, (kd : Int), i, k, IntKind.u32.wrap (x : Int)⟩
noncomputable def finP (ty nm : List UInt8) (kd : Nat) (k : List UInt8) (bg i : Int) (x : Nat × Nat × Nat) : Option (D Pl) :=
  bif ((x.2.2 : Nat) : Int) != 0 then errD x.2.2 else
  bif (bif decide (bg > 9223372036854775807) then true else decide ((x.1 : Int) > 4294967295)) == false then
    (bif ((bif okK (keyP ty nm kd k i x.1) then 0 else 1 : Int) != 0) then errD 4 else some (.tup [.agg (cK (keyP ty nm kd k i x.1)), dI x.2.1, dI 0])) else errD 4
def andM (n : Nat) : Int := IntKind.i64.wrap (bitsE .and .u64 (n : Int) 9223372036854775807)
noncomputable def kdP (l ty nm : List UInt8) (x : Nat × Nat × Nat) : Option (D Pl) :=
  bif (x.1 : Int) == 1 then ck_ (okX l x) (ck_ (okX l (nuR l x.2.1 x.2.2)) (finP ty nm x.1 [] (nuR l x.2.1 x.2.2).1 (andM (nuR l x.2.1 x.2.2).1) (nuR l (nuR l x.2.1 x.2.2).2.1 (nuR l x.2.1 x.2.2).2.2)))
  else bif (x.1 : Int) == 2 then ck_ (okX l x) (ck_ (okX l (txR l x.2.1 x.2.2)) (finP ty nm x.1 (txR l x.2.1 x.2.2).1 0 0 (nuR l (txR l x.2.1 x.2.2).2.1 (txR l x.2.1 x.2.2).2.2)))
  else ck_ (okX l x) (finP ty nm x.1 [] 0 0 (nuR l x.2.1 x.2.2))
noncomputable def tyP (l ty : List UInt8) (x : List UInt8 × Nat × Nat) : Option (D Pl) := ck_ (okX l x) (kdP l ty x.1 (kdR l x.2.1 x.2.2))
noncomputable def getP (l : List UInt8) : Option (D Pl) := ck_ (okR l 0 0) (ck_ (okX l (txR l 0 0)) (tyP l (txR l 0 0).1 (txR l (txR l 0 0).2.1 (txR l 0 0).2.2)))
theorem eGet (l : List UInt8) : evF2 tRd noL 2 Tryd.f11 [.pl (pBytes l) .any] = getP l := by kernel_rfl

end Go.Proofs.YtgngobcmfflcpaaDoor
