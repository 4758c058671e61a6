/-
  THE SEAT's VARIABLES: what the condition of the rows gives the engine; a world that meets it; the types of the arguments.
-/
import Derived.Test.YtmhmelmoionoiaaGreatDoorBase
import Derived.Test.YtmhmelmoionoiaaGreatDoorEngZ
import Derived.Test.YtmhmelmoionoiaaGreatDoorRows
namespace Go.Proofs.YtmhmelmoionoiaaGreatDoor
open Go.Eng Go.RowKit Go.ChangeShapes Go.WideShapes

set_option maxRecDepth 100000

def laid5 : List (String × DataW Unit) := [("math/bits.deBruijn32tab", Rows.laid_math_bits_deBruijn32tab), ("math/bits.deBruijn64tab", Rows.laid_math_bits_deBruijn64tab), ("internal/strconv.uint64pow10", Rows.laid_internal_strconv_uint64pow10), ("strconv.ErrRange", Rows.laid_strconv_ErrRange), ("strconv.ErrSyntax", Rows.laid_strconv_ErrSyntax)]

theorem ownKnobs : ownKnob Tryz.prog.godebug = none := by kernel_rfl
theorem laidOut : laidOutB Tryz.prog = true := by kernel_rfl

theorem laid_plain : (laid5.all fun x => x.2.handleName?.isNone) = true := by kernel_rfl

theorem glob_ok {W : World} (hL : laidMetH Tryz.prog laid5 W) : GlobOk X0.C X0.glob W (fun _ => False) := by
  intro i cs h
  have h' : glb i = some cs := h
  unfold glb at h'
  split at h' <;> simp only [Option.some.injEq, reduceCtorEq] at h' <;> subst h'
  · exact glob_ifa laid_plain hL (show ("strconv.ErrSyntax", Rows.laid_strconv_ErrSyntax) ∈ laid5 by simp [laid5]) (by kernel_rfl) (t := 98) (by kernel_rfl) Tryz.underlying98 _ id
  · exact glob_ifa laid_plain hL (show ("strconv.ErrRange", Rows.laid_strconv_ErrRange) ∈ laid5 by simp [laid5]) (by kernel_rfl) (t := 98) (by kernel_rfl) Tryz.underlying98 _ id

/-- The door's own heap meets the condition. -/
theorem door_met (os : Os) (args : Array Value) : laidMetH Tryz.prog laid5 ((World.doorLaid Tryz.prog 400 os).forCall (fun _ _ => 0) ⟨#[], args, []⟩).memory :=
  laidMetH_of_parts (laidMet_of_run' 8 (by kernel_rfl) (by kernel_rfl)) (by kernel_rfl)

section
variable {H : Type} {enc : TypeId × Value → H} {W : World}

theorem rdi (n : Nat) : RdAt enc Tryz.prog emp W n 3 fun ds => ∃ i : Int, inR .i64 i = true ∧ ds = [.int .i64 i] := rd_int Tryz.underlying3 n
theorem rdi64 (n : Nat) : RdAt enc Tryz.prog emp W n 2 fun ds => ∃ i : Int, inR .i64 i = true ∧ ds = [.int .i64 i] := rd_int Tryz.underlying2 n
theorem rds (n : Nat) : RdAt enc Tryz.prog emp W n 9 fun ds => ∃ s : Str, s.length ≤ reachBytes ∧ ds = [.str s] := rd_str Tryz.underlying9 n
theorem rdb (n : Nat) : RdAt enc Tryz.prog emp W n 4 fun ds => ∃ b, ds = [.bool b] := rd_bool Tryz.underlying4 n

theorem rd_pos (n : Nat) : RdAt enc Tryz.prog emp W n 27 fun ds => ∃ p : PosR, ds = cPos p := by
  cases n with
  | zero => exact rd_zero
  | succ n =>
    refine (rd_struct Tryz.underlying27 (.cons _ _ 0 3 _ _ rfl (rdi n) (.cons _ _ _ 3 _ _ rfl (rdi n) (.cons _ _ _ 3 _ _ rfl (rdi n) (.nil _))))).mono ?_
    rintro ds ⟨_, _, rfl, ⟨a, _, rfl⟩, _, _, rfl, ⟨b, _, rfl⟩, _, _, rfl, ⟨c, _, rfl⟩, rfl⟩
    exact ⟨⟨a, b, c⟩, rfl⟩

theorem rd_part (n : Nat) : RdAt enc Tryz.prog emp W n 36 fun ds => ∃ p : PartR, ds = cPart p := by
  cases n with
  | zero => exact rd_zero
  | succ n =>
    refine (rd_struct Tryz.underlying36 (.cons _ _ 0 5 _ _ rfl (rdb n) (.cons _ _ _ 5 _ _ rfl (rds n) (.cons _ _ _ 5 _ _ rfl (rd_pos n) (.nil _))))).mono ?_
    rintro ds ⟨_, _, rfl, ⟨e, rfl⟩, _, _, rfl, ⟨s, _, rfl⟩, _, _, rfl, ⟨p, rfl⟩, rfl⟩
    exact ⟨⟨e, s, p⟩, rfl⟩

theorem rd_parts (n : Nat) : RdAt enc Tryz.prog emp W n 32 fun ds => ∃ l : List PartR, l.length ≤ reachBytes ∧ ds = [.pl (pParts l) .any] := by
  cases n with
  | zero => exact rd_zero
  | succ n => exact rd_slice .parts (by kernel_rfl) (by kernel_rfl) (by kernel_rfl) (rd_part n)

theorem rd_tok (n : Nat) : RdAt enc Tryz.prog emp W n 34 fun ds => ∃ t : TokR, ds = cTok t := by
  cases n with
  | zero => exact rd_zero
  | succ n =>
    refine (rd_struct Tryz.underlying34 (.cons _ _ 0 7 _ _ rfl (rdi n) (.cons _ _ _ 7 _ _ rfl (rds n) (.cons _ _ _ 7 _ _ rfl (rdi64 n)
      (.cons _ _ _ 7 _ _ rfl (rd_parts n) (.cons _ _ _ 7 _ _ rfl (rd_pos n) (.nil _))))))).mono ?_
    rintro ds ⟨_, _, rfl, ⟨k, _, rfl⟩, _, _, rfl, ⟨s, _, rfl⟩, _, _, rfl, ⟨m, _, rfl⟩, _, _, rfl, ⟨l, _, rfl⟩, _, _, rfl, ⟨p, rfl⟩, rfl⟩
    exact ⟨⟨k, s, m, l, p⟩, rfl⟩

end
end Go.Proofs.YtmhmelmoionoiaaGreatDoor
