/-
  THE SEAT's VARIABLES: what the condition of the rows gives the engine; a world that meets it; the types of the arguments.
-/
import Derived.Test.YtgngobcmfflcpaaDoorBase
import Derived.Test.YtgngobcmfflcpaaDoorEngZ
import Derived.Test.YtgngobcmfflcpaaDoorRows
namespace Go.Proofs.YtgngobcmfflcpaaDoor
open Go.Eng Go.RowKit Go.ChangeShapes Go.WideShapes

set_option maxRecDepth 100000

def laid3 : List (String × DataW Unit) := [("math/bits.deBruijn32tab", Rows.laid_math_bits_deBruijn32tab), ("math/bits.deBruijn64tab", Rows.laid_math_bits_deBruijn64tab), ("internal/strconv.uint64pow10", Rows.laid_internal_strconv_uint64pow10)]

theorem ownKnobs : ownKnob Tryd.prog.godebug = none := by kernel_rfl
theorem laidOut : laidOutB Tryd.prog = true := by kernel_rfl

theorem glob_ok {W : World} : GlobOk X0.C X0.glob W (fun _ => False) := by
  intro i cs h
  have h' : glb i = some cs := h
  simp [glb] at h'

/-- The door's own heap meets the condition. -/
theorem door_met (os : Os) (args : Array Value) : laidMetH Tryd.prog laid3 ((World.doorLaid Tryd.prog 400 os).forCall (fun _ _ => 0) ⟨#[], args, []⟩).memory :=
  laidMetH_of_parts (laidMet_of_run' 8 (by kernel_rfl) (by kernel_rfl)) (by kernel_rfl)

section
variable {H : Type} {enc : TypeId × Value → H} {W : World}

theorem rdi (n : Nat) : RdAt enc Tryd.prog emp W n 3 fun ds => ∃ i : Int, inR .i64 i = true ∧ ds = [.int .i64 i] := rd_int Tryd.underlying3 n
theorem rdi64 (n : Nat) : RdAt enc Tryd.prog emp W n 2 fun ds => ∃ i : Int, inR .i64 i = true ∧ ds = [.int .i64 i] := rd_int Tryd.underlying2 n
theorem rdu32 (n : Nat) : RdAt enc Tryd.prog emp W n 25 fun ds => ∃ i : Int, inR .u32 i = true ∧ ds = [.int .u32 i] := rd_int Tryd.underlying25 n
theorem rds (n : Nat) : RdAt enc Tryd.prog emp W n 9 fun ds => ∃ s : Str, s.length ≤ reachBytes ∧ ds = [.str s] := rd_str Tryd.underlying9 n
theorem rdb (n : Nat) : RdAt enc Tryd.prog emp W n 4 fun ds => ∃ b, ds = [.bool b] := rd_bool Tryd.underlying4 n

theorem rd_addr (n : Nat) : RdAt enc Tryd.prog emp W n 24 fun ds => ∃ (ty name : Str) (kind i : Int) (k : Str), ds = [.str ty, .str name, dI kind, dI i, .str k] := by
  cases n with
  | zero => exact rd_zero
  | succ n =>
    refine (rd_struct Tryd.underlying24 (.cons _ _ 0 5 _ _ rfl (rds n) (.cons _ _ _ 5 _ _ rfl (rds n) (.cons _ _ _ 5 _ _ rfl (rdi n)
      (.cons _ _ _ 5 _ _ rfl (rdi64 n) (.cons _ _ _ 5 _ _ rfl (rds n) (.nil _))))))).mono ?_
    rintro ds ⟨_, _, rfl, ⟨ty, _, rfl⟩, _, _, rfl, ⟨nm, _, rfl⟩, _, _, rfl, ⟨kd, _, rfl⟩, _, _, rfl, ⟨i, _, rfl⟩, _, _, rfl, ⟨k, _, rfl⟩, rfl⟩
    exact ⟨ty, nm, kd, i, k, rfl⟩

theorem rd_key (n : Nat) : RdAt enc Tryd.prog emp W n 27 fun ds => ∃ k : KeyR, ds = cK k := by
  cases n with
  | zero => exact rd_zero
  | succ n =>
    refine (rd_struct Tryd.underlying27 (.cons _ _ 0 6 _ _ rfl (rd_addr n) (.cons _ _ _ 6 _ _ rfl (rdu32 n) (.nil _)))).mono ?_
    rintro ds ⟨_, _, rfl, ⟨ty, nm, kd, i, k, rfl⟩, _, _, rfl, ⟨m, _, rfl⟩, rfl⟩
    exact ⟨⟨ty, nm, kd, i, k, m⟩, rfl⟩

theorem rd_keys (n : Nat) : RdAt enc Tryd.prog emp W n 41 fun ds => ∃ l : List KeyR, l.length ≤ reachBytes ∧ ds = [.pl (pKeys l) .any] := by
  cases n with
  | zero => exact rd_zero
  | succ n => exact rd_slice .keys (by kernel_rfl) (by kernel_rfl) (by kernel_rfl) (rd_key n)

end
end Go.Proofs.YtgngobcmfflcpaaDoor
