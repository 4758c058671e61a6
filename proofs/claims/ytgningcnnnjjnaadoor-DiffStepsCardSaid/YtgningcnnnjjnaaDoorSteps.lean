/-
  THE LAW OF THE STEPS, evaluated: whatever the action, the keys and the order: true.
-/
import Derived.Test.YtgningcnnnjjnaaDoorBase
namespace Go.Proofs.YtgningcnnnjjnaaDoor
open Go.Eng

set_option maxRecDepth 100000

def eqKey (a b : KeyR) : Bool := (a.ty == b.ty && (a.name == b.name && (a.kind == b.kind && (a.i == b.i && (a.k == b.k && true))))) && (a.n == b.n && true)

theorem eqKey_self (a : KeyR) : eqKey a a = true := by simp [eqKey]

def T2 : Option (D Pl) := some (.bool true)
def F2 : Option (D Pl) := some (.bool false)

noncomputable abbrev run5 (act : Int) (old next : KeyR) (first : Bool) : Option (D Pl) := callK X0 F0 (toldA told0) 20 5 [dI act, .agg (cK old), .agg (cK next), .bool first] (fun d => some d)

/-- One step's check: the same key. -/
def one (k : KeyR) (a : Option (D Pl)) : Option (D Pl) := bif ((bif !(eqKey k k) then true else false) == false) then a else F2

theorem one_eq (k : KeyR) (a : Option (D Pl)) : one k a = a := by simp [one, eqKey_self]

theorem run5_0 (old next : KeyR) (first : Bool) : run5 (.ofNat 0) old next first = T2 := by kernel_rfl
theorem run5_1 (old next : KeyR) (first : Bool) : run5 (.ofNat 1) old next first = one next T2 := by kernel_rfl
theorem run5_2 (old next : KeyR) (first : Bool) : run5 (.ofNat 2) old next first = one old T2 := by kernel_rfl
theorem run5_3 (old next : KeyR) (first : Bool) : run5 (.ofNat 3) old next first = one old T2 := by kernel_rfl
theorem run5_4t (old next : KeyR) : run5 (.ofNat 4) old next true = one next (one old T2) := by kernel_rfl
theorem run5_4f (old next : KeyR) : run5 (.ofNat 4) old next false = one old (one next T2) := by kernel_rfl
theorem run5_more (m : Nat) (old next : KeyR) (first : Bool) : run5 (.ofNat (m + 5)) old next first = T2 := by kernel_rfl
theorem run5_neg (m : Nat) (old next : KeyR) (first : Bool) : run5 (.negSucc m) old next first = T2 := by kernel_rfl

theorem run5_all (act : Int) (old next : KeyR) (first : Bool) : run5 act old next first = T2 := by
  cases act with
  | negSucc m => exact run5_neg m old next first
  | ofNat n =>
    match n with
    | 0 => exact run5_0 old next first
    | 1 => rw [run5_1, one_eq]
    | 2 => rw [run5_2, one_eq]
    | 3 => rw [run5_3, one_eq]
    | 4 =>
      cases first with
      | true => rw [run5_4t, one_eq, one_eq]
      | false => rw [run5_4f, one_eq, one_eq]
    | m + 5 => exact run5_more m old next first

theorem steps_sound (act : Int) (old next : KeyR) (first : Bool) : Snd 5 [dI act, .agg (cK old), .agg (cK next), .bool first] (.bool true) :=
  snd_of (toldA_ok told0_ok) (run5_all act old next first)

end Go.Proofs.YtgningcnnnjjnaaDoor
