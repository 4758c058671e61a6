/-
  THE SEAT's VARIABLES: what the condition of the rows gives the engine; a world that meets it; the types of the arguments.
-/
import Derived.Test.YtlfohmdclcdejaaDoorBase
import Derived.Test.YtlfohmdclcdejaaDoorEngZ
import Derived.Test.YtlfohmdclcdejaaDoorRows
namespace Go.Proofs.YtlfohmdclcdejaaDoor
open Go.Eng Go.RowKit Go.ChangeShapes Go.WideShapes

set_option maxRecDepth 100000

def laid5 : List (String × DataW Unit) := [("math/bits.deBruijn32tab", Rows.laid_math_bits_deBruijn32tab), ("math/bits.deBruijn64tab", Rows.laid_math_bits_deBruijn64tab), ("internal/strconv.uint64pow10", Rows.laid_internal_strconv_uint64pow10), ("strconv.ErrRange", Rows.laid_strconv_ErrRange), ("strconv.ErrSyntax", Rows.laid_strconv_ErrSyntax)]

theorem ownKnobs : ownKnob Tryd.prog.godebug = none := by kernel_rfl
theorem laidOut : laidOutB Tryd.prog = true := by kernel_rfl

theorem laid_plain : (laid5.all fun x => x.2.handleName?.isNone) = true := by kernel_rfl

theorem glob_ok {W : World} (hL : laidMetH Tryd.prog laid5 W) : GlobOk X0.C X0.glob W (fun _ => False) := by
  intro i cs h
  have h' : glb i = some cs := h
  have m0 : ("internal/strconv.uint64pow10", (Lib.tabData .u64 Lib.pow10Tab : DataW Unit)) ∈ laid5 := by
    rw [show (Lib.tabData .u64 Lib.pow10Tab : DataW Unit) = Rows.laid_internal_strconv_uint64pow10 by kernel_rfl]
    simp [laid5]
  unfold glb at h'
  split at h' <;> simp only [Option.some.injEq, reduceCtorEq] at h' <;> subst h'
  · exact glob_tab laid_plain hL m0 (by kernel_rfl) (t := 90) (by kernel_rfl) (m := 20) (e := 57) (by kernel_rfl) (by kernel_rfl) (by kernel_rfl) (by kernel_rfl) (by kernel_rfl) _ id
  · exact glob_ifa laid_plain hL (show ("strconv.ErrSyntax", Rows.laid_strconv_ErrSyntax) ∈ laid5 by simp [laid5]) (by kernel_rfl) (t := 74) (by kernel_rfl) Tryd.underlying74 _ id
  · exact glob_ifa laid_plain hL (show ("strconv.ErrRange", Rows.laid_strconv_ErrRange) ∈ laid5 by simp [laid5]) (by kernel_rfl) (t := 74) (by kernel_rfl) Tryd.underlying74 _ id

/-- The door's own heap meets the condition. -/
theorem door_met (os : Os) (args : Array Value) : laidMetH Tryd.prog laid5 ((World.doorLaid Tryd.prog 400 os).forCall (fun _ _ => 0) ⟨#[], args, []⟩).memory :=
  laidMetH_of_parts (laidMet_of_run' 8 (by kernel_rfl) (by kernel_rfl)) (by kernel_rfl)

section
variable {H : Type} {enc : TypeId × Value → H} {W : World}

theorem rdi (n : Nat) : RdAt enc Tryd.prog emp W n 3 fun ds => ∃ i : Int, inR .i64 i = true ∧ ds = [.int .i64 i] := rd_int Tryd.underlying3 n
theorem rdi64 (n : Nat) : RdAt enc Tryd.prog emp W n 2 fun ds => ∃ i : Int, inR .i64 i = true ∧ ds = [.int .i64 i] := rd_int Tryd.underlying2 n
theorem rdu32 (n : Nat) : RdAt enc Tryd.prog emp W n 24 fun ds => ∃ i : Int, inR .u32 i = true ∧ ds = [.int .u32 i] := rd_int Tryd.underlying24 n
theorem rds (n : Nat) : RdAt enc Tryd.prog emp W n 9 fun ds => ∃ s : Str, s.length ≤ reachBytes ∧ ds = [.str s] := rd_str Tryd.underlying9 n
theorem rdb (n : Nat) : RdAt enc Tryd.prog emp W n 4 fun ds => ∃ b, ds = [.bool b] := rd_bool Tryd.underlying4 n

theorem rd_addr (n : Nat) : RdAt enc Tryd.prog emp W n 23 fun ds => ∃ (ty name : Str) (kind i : Int) (k : Str), ds = [.str ty, .str name, dI kind, dI i, .str k] := by
  cases n with
  | zero => exact rd_zero
  | succ n =>
    refine (rd_struct Tryd.underlying23 (.cons _ _ 0 5 _ _ rfl (rds n) (.cons _ _ _ 5 _ _ rfl (rds n) (.cons _ _ _ 5 _ _ rfl (rdi n)
      (.cons _ _ _ 5 _ _ rfl (rdi64 n) (.cons _ _ _ 5 _ _ rfl (rds n) (.nil _))))))).mono ?_
    rintro ds ⟨_, _, rfl, ⟨ty, _, rfl⟩, _, _, rfl, ⟨nm, _, rfl⟩, _, _, rfl, ⟨kd, _, rfl⟩, _, _, rfl, ⟨i, _, rfl⟩, _, _, rfl, ⟨k, _, rfl⟩, rfl⟩
    exact ⟨ty, nm, kd, i, k, rfl⟩

theorem rd_key (n : Nat) : RdAt enc Tryd.prog emp W n 26 fun ds => ∃ k : KeyR, ds = cK k := by
  cases n with
  | zero => exact rd_zero
  | succ n =>
    refine (rd_struct Tryd.underlying26 (.cons _ _ 0 6 _ _ rfl (rd_addr n) (.cons _ _ _ 6 _ _ rfl (rdu32 n) (.nil _)))).mono ?_
    rintro ds ⟨_, _, rfl, ⟨ty, nm, kd, i, k, rfl⟩, _, _, rfl, ⟨m, _, rfl⟩, rfl⟩
    exact ⟨⟨ty, nm, kd, i, k, m⟩, rfl⟩

end
end Go.Proofs.YtlfohmdclcdejaaDoor
