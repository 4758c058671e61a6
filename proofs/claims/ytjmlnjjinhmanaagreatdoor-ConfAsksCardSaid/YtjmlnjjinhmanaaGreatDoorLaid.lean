/-
  THE SEAT's VARIABLES: what the condition of the rows gives the engine; a world that meets it; the types of the arguments.
-/
import Derived.Test.YtjmlnjjinhmanaaGreatDoorBase
import Derived.Test.YtjmlnjjinhmanaaGreatDoorEngZ
import Derived.Test.YtjmlnjjinhmanaaGreatDoorRows
namespace Go.Proofs.YtjmlnjjinhmanaaGreatDoor
open Go.Eng Go.RowKit Go.ChangeShapes Go.WideShapes

set_option maxRecDepth 100000

def laid5 : List (String × DataW Unit) := [("math/bits.deBruijn32tab", Rows.laid_math_bits_deBruijn32tab), ("math/bits.deBruijn64tab", Rows.laid_math_bits_deBruijn64tab), ("internal/strconv.uint64pow10", Rows.laid_internal_strconv_uint64pow10), ("strconv.ErrRange", Rows.laid_strconv_ErrRange), ("strconv.ErrSyntax", Rows.laid_strconv_ErrSyntax)]

theorem ownKnobs : ownKnob Tryz.prog.godebug = none := by kernel_rfl
theorem laidOut : laidOutB Tryz.prog = true := by kernel_rfl

theorem laid_plain : (laid5.all fun x => x.2.handleName?.isNone) = true := by kernel_rfl

theorem glob_ok {W : World} (hL : laidMetH Tryz.prog laid5 W) : GlobOk X0.C X0.glob W (fun _ => False) := by
  intro i cs h
  have h' : glb i = some cs := h
  unfold glb at h'
  split at h' <;> simp only [Option.some.injEq, reduceCtorEq] at h' <;> subst h'
  · exact glob_ifa laid_plain hL (show ("strconv.ErrSyntax", Rows.laid_strconv_ErrSyntax) ∈ laid5 by simp [laid5]) (by kernel_rfl) (t := 122) (by kernel_rfl) Tryz.underlying122 _ id
  · exact glob_ifa laid_plain hL (show ("strconv.ErrRange", Rows.laid_strconv_ErrRange) ∈ laid5 by simp [laid5]) (by kernel_rfl) (t := 122) (by kernel_rfl) Tryz.underlying122 _ id

/-- The door's own heap meets the condition. -/
theorem door_met (os : Os) (args : Array Value) : laidMetH Tryz.prog laid5 ((World.doorLaid Tryz.prog 400 os).forCall (fun _ _ => 0) ⟨#[], args, []⟩).memory :=
  laidMetH_of_parts (laidMet_of_run' 8 (by kernel_rfl) (by kernel_rfl)) (by kernel_rfl)

section
variable {H : Type} {enc : TypeId × Value → H} {W : World}

theorem rdi (n : Nat) : RdAt enc Tryz.prog emp W n 3 fun ds => ∃ i : Int, inR .i64 i = true ∧ ds = [.int .i64 i] := rd_int Tryz.underlying3 n
theorem rdi64 (n : Nat) : RdAt enc Tryz.prog emp W n 2 fun ds => ∃ i : Int, inR .i64 i = true ∧ ds = [.int .i64 i] := rd_int Tryz.underlying2 n
theorem rds (n : Nat) : RdAt enc Tryz.prog emp W n 9 fun ds => ∃ s : Str, s.length ≤ reachBytes ∧ ds = [.str s] := rd_str Tryz.underlying9 n
theorem rdb (n : Nat) : RdAt enc Tryz.prog emp W n 4 fun ds => ∃ b, ds = [.bool b] := rd_bool Tryz.underlying4 n

theorem rdu8 (n : Nat) : RdAt enc Tryz.prog emp W n 5 fun ds => ∃ i : Int, inR .u8 i = true ∧ ds = [.int .u8 i] := rd_int Tryz.underlying5 n

theorem rd_pos (n : Nat) : RdAt enc Tryz.prog emp W n 26 fun ds => ∃ p : PosR, ds = cPos p := by
  cases n with
  | zero => exact rd_zero
  | succ n =>
    refine (rd_struct Tryz.underlying26 (.cons _ _ 0 3 _ _ rfl (rdi n) (.cons _ _ _ 3 _ _ rfl (rdi n) (.cons _ _ _ 3 _ _ rfl (rdi n) (.nil _))))).mono ?_
    rintro ds ⟨_, _, rfl, ⟨a, _, rfl⟩, _, _, rfl, ⟨b, _, rfl⟩, _, _, rfl, ⟨c, _, rfl⟩, rfl⟩
    exact ⟨⟨a, b, c⟩, rfl⟩

theorem rd_type (n : Nat) : RdAt enc Tryz.prog emp W n 34 fun ds => ∃ tk tof : Int, ds = [dI tk, dI tof] := by
  cases n with
  | zero => exact rd_zero
  | succ n =>
    refine (rd_struct Tryz.underlying34 (.cons _ _ 0 2 _ _ rfl (rdi n) (.cons _ _ _ 2 _ _ rfl (rdi n) (.nil _)))).mono ?_
    rintro ds ⟨a, b, rfl, ⟨k, _, rfl⟩, c, e, rfl, ⟨o, _, rfl⟩, rfl⟩
    exact ⟨k, o, rfl⟩

theorem rd_strs (n : Nat) : RdAt enc Tryz.prog emp W n 31 fun ds => ∃ l : List Str, l.length ≤ reachBytes ∧ ds = [.pl (pStrs l) .any] := by
  cases n with
  | zero => exact rd_zero
  | succ n => exact rd_slice .strs (by kernel_rfl) (by kernel_rfl) (by kernel_rfl) ((rds n).mono fun ds ⟨s, _, h⟩ => ⟨s, h⟩)

theorem rd_val : ∀ n, (RdAt enc Tryz.prog emp W n 36 fun ds => ∃ v : Val, ds = cV v) ∧ RdAt enc Tryz.prog emp W n 32 fun ds => ∃ l : List Val, l.length ≤ reachBytes ∧ ds = [.pl (pVals l) .any]
  | 0 => ⟨rd_zero, rd_zero⟩
  | n + 1 => by
    obtain ⟨h1, h2⟩ := rd_val n
    refine ⟨?_, rd_slice .vals (by kernel_rfl) (by kernel_rfl) (by kernel_rfl) h1⟩
    refine (rd_struct Tryz.underlying36 (.cons _ _ 0 8 _ _ rfl (rdi n) (.cons _ _ _ 8 _ _ rfl (rdi64 n) (.cons _ _ _ 8 _ _ rfl (rds n)
      (.cons _ _ _ 8 _ _ rfl h2 (.cons _ _ _ 8 _ _ rfl (rd_strs n) (.cons _ _ _ 8 _ _ rfl (rd_type n) (.cons _ _ _ 8 _ _ rfl (rdb n) (.nil _))))))))).mono ?_
    rintro ds ⟨_, _, rfl, ⟨k, _, rfl⟩, _, _, rfl, ⟨i, _, rfl⟩, _, _, rfl, ⟨s, _, rfl⟩, _, _, rfl, ⟨l, _, rfl⟩, _, _, rfl, ⟨ks, _, rfl⟩, _, _, rfl, ⟨tk, tof, rfl⟩, _, _, rfl, ⟨b, rfl⟩, rfl⟩
    exact ⟨⟨k, i, s, l, ks, tk, tof, b⟩, rfl⟩

theorem rd_expr : ∀ n, (RdAt enc Tryz.prog emp W n 39 fun ds => ∃ e : ExprR, ds = cExpr e) ∧ RdAt enc Tryz.prog emp W n 37 fun ds => ∃ l : List ExprR, l.length ≤ reachBytes ∧ ds = [.pl (pExprs l) .any]
  | 0 => ⟨rd_zero, rd_zero⟩
  | n + 1 => by
    obtain ⟨h1, h2⟩ := rd_expr n
    refine ⟨?_, rd_slice .exprs (by kernel_rfl) (by kernel_rfl) (by kernel_rfl) h1⟩
    refine (rd_struct Tryz.underlying39 (.cons _ _ 0 15 _ _ rfl (rdi n) (.cons _ _ _ 15 _ _ rfl (rds n) (.cons _ _ _ 15 _ _ rfl (rds n)
      (.cons _ _ _ 15 _ _ rfl (rd_val n).1 (.cons _ _ _ 15 _ _ rfl h2 (.cons _ _ _ 15 _ _ rfl (rd_pos n) (.nil _)))))))).mono ?_
    rintro ds ⟨_, _, rfl, ⟨k, _, rfl⟩, _, _, rfl, ⟨s, _, rfl⟩, _, _, rfl, ⟨s2, _, rfl⟩, _, _, rfl, ⟨v, rfl⟩, _, _, rfl, ⟨l, _, rfl⟩, _, _, rfl, ⟨p, rfl⟩, rfl⟩
    exact ⟨⟨k, s, s2, v, l, p⟩, rfl⟩

theorem rd_item : ∀ n, (RdAt enc Tryz.prog emp W n 41 fun ds => ∃ e : ItemR, ds = cItem e) ∧ RdAt enc Tryz.prog emp W n 23 fun ds => ∃ l : List ItemR, l.length ≤ reachBytes ∧ ds = [.pl (pItems l) .any]
  | 0 => ⟨rd_zero, rd_zero⟩
  | n + 1 => by
    obtain ⟨h1, h2⟩ := rd_item n
    refine ⟨?_, rd_slice .items (by kernel_rfl) (by kernel_rfl) (by kernel_rfl) h1⟩
    refine (rd_struct Tryz.underlying41 (.cons _ _ 0 22 _ _ rfl (rdb n) (.cons _ _ _ 22 _ _ rfl (rds n) (.cons _ _ _ 22 _ _ rfl (rd_strs n)
      (.cons _ _ _ 22 _ _ rfl (rd_expr n).1 (.cons _ _ _ 22 _ _ rfl h2 (.cons _ _ _ 22 _ _ rfl (rd_pos n) (.nil _)))))))).mono ?_
    rintro ds ⟨_, _, rfl, ⟨bl, rfl⟩, _, _, rfl, ⟨s, _, rfl⟩, _, _, rfl, ⟨lb, _, rfl⟩, _, _, rfl, ⟨e, rfl⟩, _, _, rfl, ⟨l, _, rfl⟩, _, _, rfl, ⟨p, rfl⟩, rfl⟩
    exact ⟨⟨bl, s, lb, e, l, p⟩, rfl⟩
theorem rd_items (n : Nat) : RdAt enc Tryz.prog emp W n 23 fun ds => ∃ l : List ItemR, l.length ≤ reachBytes ∧ ds = [.pl (pItems l) .any] := (rd_item n).2

end
end Go.Proofs.YtjmlnjjinhmanaaGreatDoor
