/-
  THE SEAT's VARIABLES: what the condition of the rows gives the engine; a world that meets it; the types of the arguments.
-/
import Derived.Test.YtnilfihmpeojfaaGreatDoorNil
import Derived.Test.YtnilfihmpeojfaaGreatDoorEngZ
import Derived.Test.YtnilfihmpeojfaaGreatDoorRows
namespace Go.Proofs.YtnilfihmpeojfaaGreatDoor
open Go.Eng Go.RowKit Go.ChangeShapes Go.WideShapes

set_option maxRecDepth 100000

def laid9 : List (String × DataW Unit) := [("math/bits.deBruijn32tab", Rows.laid_math_bits_deBruijn32tab), ("math/bits.deBruijn64tab", Rows.laid_math_bits_deBruijn64tab), ("internal/strconv.uint64pow10", Rows.laid_internal_strconv_uint64pow10), ("surety/schema.number", Rows.laid_surety_schema_number), ("surety/schema.texts", Rows.laid_surety_schema_texts), ("surety/schema.ints", Rows.laid_surety_schema_ints), ("surety/schema.list", Rows.laid_surety_schema_list), ("surety/schema.tags", Rows.laid_surety_schema_tags), ("surety/schema.maps", Rows.laid_surety_schema_maps)]

theorem ownKnobs : ownKnob Tryz.prog.godebug = none := by kernel_rfl
theorem laidOut : laidOutB Tryz.prog = true := by kernel_rfl

theorem glob_ok {W : World} (hL : laidMetH Tryz.prog laid9 W) : GlobOk X0.C X0.glob W (fun _ => False) := by
  have hp : (laid9.all fun x => x.2.handleName?.isNone) = true := by kernel_rfl
  intro i cs h
  have h' : glb i = some cs := h
  unfold glb at h'
  split at h'
  · simp only [Option.some.injEq] at h'; subst h'
    exact glob_pair hp hL (n := "surety/schema.texts") (by simp [laid9, Rows.laid_surety_schema_texts]) (t := 30) (by kernel_rfl) (by kernel_rfl) Tryz.underlying30 (by kernel_rfl) (by kernel_rfl) rfl rfl (by kernel_rfl) (by kernel_rfl) rfl rfl _ (fun h => h) (by kernel_rfl)
  · simp only [Option.some.injEq] at h'; subst h'
    exact glob_pair hp hL (n := "surety/schema.number") (by simp [laid9, Rows.laid_surety_schema_number]) (t := 30) (by kernel_rfl) (by kernel_rfl) Tryz.underlying30 (by kernel_rfl) (by kernel_rfl) rfl rfl (by kernel_rfl) (by kernel_rfl) rfl rfl _ (fun h => h) (by kernel_rfl)
  · simp only [Option.some.injEq] at h'; subst h'
    exact glob_pair hp hL (n := "surety/schema.ints") (by simp [laid9, Rows.laid_surety_schema_ints]) (t := 30) (by kernel_rfl) (by kernel_rfl) Tryz.underlying30 (by kernel_rfl) (by kernel_rfl) rfl rfl (by kernel_rfl) (by kernel_rfl) rfl rfl _ (fun h => h) (by kernel_rfl)
  · simp only [Option.some.injEq] at h'; subst h'
    exact glob_pair hp hL (n := "surety/schema.tags") (by simp [laid9, Rows.laid_surety_schema_tags]) (t := 30) (by kernel_rfl) (by kernel_rfl) Tryz.underlying30 (by kernel_rfl) (by kernel_rfl) rfl rfl (by kernel_rfl) (by kernel_rfl) rfl rfl _ (fun h => h) (by kernel_rfl)
  · simp only [Option.some.injEq] at h'; subst h'
    exact glob_pair hp hL (n := "surety/schema.maps") (by simp [laid9, Rows.laid_surety_schema_maps]) (t := 30) (by kernel_rfl) (by kernel_rfl) Tryz.underlying30 (by kernel_rfl) (by kernel_rfl) rfl rfl (by kernel_rfl) (by kernel_rfl) rfl rfl _ (fun h => h) (by kernel_rfl)
  · simp only [Option.some.injEq] at h'; subst h'
    exact glob_pair hp hL (n := "surety/schema.list") (by simp [laid9, Rows.laid_surety_schema_list]) (t := 30) (by kernel_rfl) (by kernel_rfl) Tryz.underlying30 (by kernel_rfl) (by kernel_rfl) rfl rfl (by kernel_rfl) (by kernel_rfl) rfl rfl _ (fun h => h) (by kernel_rfl)
  · simp at h'

/-- The door's own heap meets the condition. -/
theorem door_met (os : Os) (args : Array Value) : laidMetH Tryz.prog laid9 ((World.doorLaid Tryz.prog 400 os).forCall (fun _ _ => 0) ⟨#[], args, []⟩).memory :=
  laidMetH_of_parts (laidMet_of_run' 8 (by kernel_rfl) (by kernel_rfl)) (by kernel_rfl)

section
variable {H : Type} {enc : TypeId × Value → H} {W : World}

theorem rdi (n : Nat) : RdAt enc Tryz.prog emp W n 3 fun ds => ∃ i : Int, inR .i64 i = true ∧ ds = [.int .i64 i] := rd_int Tryz.underlying3 n
theorem rdi64 (n : Nat) : RdAt enc Tryz.prog emp W n 2 fun ds => ∃ i : Int, inR .i64 i = true ∧ ds = [.int .i64 i] := rd_int Tryz.underlying2 n
theorem rdu32 (n : Nat) : RdAt enc Tryz.prog emp W n 24 fun ds => ∃ i : Int, inR .u32 i = true ∧ ds = [.int .u32 i] := rd_int Tryz.underlying24 n
theorem rds (n : Nat) : RdAt enc Tryz.prog emp W n 9 fun ds => ∃ s : Str, s.length ≤ reachBytes ∧ ds = [.str s] := rd_str Tryz.underlying9 n
theorem rdb (n : Nat) : RdAt enc Tryz.prog emp W n 4 fun ds => ∃ b, ds = [.bool b] := rd_bool Tryz.underlying4 n

theorem rd_type (n : Nat) : RdAt enc Tryz.prog emp W n 30 fun ds => ∃ tk tof : Int, ds = [dI tk, dI tof] := by
  cases n with
  | zero => exact rd_zero
  | succ n =>
    refine (rd_struct Tryz.underlying30 (.cons _ _ 0 2 _ _ rfl (rdi n) (.cons _ _ _ 2 _ _ rfl (rdi n) (.nil _)))).mono ?_
    rintro ds ⟨a, b, rfl, ⟨k, _, rfl⟩, c, e, rfl, ⟨o, _, rfl⟩, rfl⟩
    exact ⟨k, o, rfl⟩

theorem rd_strs (n : Nat) : RdAt enc Tryz.prog emp W n 28 fun ds => ∃ l : List Str, l.length ≤ reachBytes ∧ ds = [.pl (pStrs l) .any] := by
  cases n with
  | zero => exact rd_zero
  | succ n => exact rd_slice .strs (by kernel_rfl) (by kernel_rfl) (by kernel_rfl) ((rds n).mono fun ds ⟨s, _, h⟩ => ⟨s, h⟩)

theorem rd_val : ∀ n, (RdAt enc Tryz.prog emp W n 32 fun ds => ∃ v : Val, ds = cV v) ∧ RdAt enc Tryz.prog emp W n 27 fun ds => ∃ l : List Val, l.length ≤ reachBytes ∧ ds = [.pl (pVals l) .any]
  | 0 => ⟨rd_zero, rd_zero⟩
  | n + 1 => by
    obtain ⟨h1, h2⟩ := rd_val n
    refine ⟨?_, rd_slice .vals (by kernel_rfl) (by kernel_rfl) (by kernel_rfl) h1⟩
    refine (rd_struct Tryz.underlying32 (.cons _ _ 0 8 _ _ rfl (rdi n) (.cons _ _ _ 8 _ _ rfl (rdi64 n) (.cons _ _ _ 8 _ _ rfl (rds n)
      (.cons _ _ _ 8 _ _ rfl h2 (.cons _ _ _ 8 _ _ rfl (rd_strs n) (.cons _ _ _ 8 _ _ rfl (rd_type n) (.cons _ _ _ 8 _ _ rfl (rdb n) (.nil _))))))))).mono ?_
    rintro ds ⟨_, _, rfl, ⟨k, _, rfl⟩, _, _, rfl, ⟨i, _, rfl⟩, _, _, rfl, ⟨s, _, rfl⟩, _, _, rfl, ⟨l, _, rfl⟩, _, _, rfl, ⟨ks, _, rfl⟩, _, _, rfl, ⟨tk, tof, rfl⟩, _, _, rfl, ⟨b, rfl⟩, rfl⟩
    exact ⟨⟨k, i, s, l, ks, tk, tof, b⟩, rfl⟩

theorem rd_addr (n : Nat) : RdAt enc Tryz.prog emp W n 23 fun ds => ∃ (ty name : Str) (kind i : Int) (k : Str), ds = [.str ty, .str name, dI kind, dI i, .str k] := by
  cases n with
  | zero => exact rd_zero
  | succ n =>
    refine (rd_struct Tryz.underlying23 (.cons _ _ 0 5 _ _ rfl (rds n) (.cons _ _ _ 5 _ _ rfl (rds n) (.cons _ _ _ 5 _ _ rfl (rdi n)
      (.cons _ _ _ 5 _ _ rfl (rdi64 n) (.cons _ _ _ 5 _ _ rfl (rds n) (.nil _))))))).mono ?_
    rintro ds ⟨_, _, rfl, ⟨ty, _, rfl⟩, _, _, rfl, ⟨nm, _, rfl⟩, _, _, rfl, ⟨kd, _, rfl⟩, _, _, rfl, ⟨i, _, rfl⟩, _, _, rfl, ⟨k, _, rfl⟩, rfl⟩
    exact ⟨ty, nm, kd, i, k, rfl⟩

theorem rd_key (n : Nat) : RdAt enc Tryz.prog emp W n 26 fun ds => ∃ k : KeyR, ds = cK k := by
  cases n with
  | zero => exact rd_zero
  | succ n =>
    refine (rd_struct Tryz.underlying26 (.cons _ _ 0 6 _ _ rfl (rd_addr n) (.cons _ _ _ 6 _ _ rfl (rdu32 n) (.nil _)))).mono ?_
    rintro ds ⟨_, _, rfl, ⟨ty, nm, kd, i, k, rfl⟩, _, _, rfl, ⟨m, _, rfl⟩, rfl⟩
    exact ⟨⟨ty, nm, kd, i, k, m⟩, rfl⟩

theorem rd_req (n : Nat) : RdAt enc Tryz.prog emp W n 34 fun ds => ∃ (k : Int) (a : KeyR) (v u : Val), ds = cQ k a v u := by
  cases n with
  | zero => exact rd_zero
  | succ n =>
    refine (rd_struct Tryz.underlying34 (.cons _ _ 0 23 _ _ rfl (rdi n) (.cons _ _ _ 23 _ _ rfl (rd_key n) (.cons _ _ _ 23 _ _ rfl (rd_val n).1 (.cons _ _ _ 23 _ _ rfl (rd_val n).1 (.nil _)))))).mono ?_
    rintro ds ⟨_, _, rfl, ⟨k, _, rfl⟩, _, _, rfl, ⟨a, rfl⟩, _, _, rfl, ⟨v, rfl⟩, _, _, rfl, ⟨u, rfl⟩, rfl⟩
    exact ⟨k, a, v, u, by simp [cQ]⟩
theorem rdv (n : Nat) : RdAt enc Tryz.prog emp W n 32 fun ds => ∃ v : Val, ds = cV v := (rd_val n).1

end
end Go.Proofs.YtnilfihmpeojfaaGreatDoor
