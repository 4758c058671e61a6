/-
  NUMBERS OF 64 BITS.
-/
import Derived.Test.YtlfohmdclcdejaaDoorLib
namespace Go.Proofs.YtlfohmdclcdejaaDoor
open Go.Eng

abbrev w64 (z : Int) : Int := IntKind.u64.wrap z
abbrev i64 (z : Int) : Int := IntKind.i64.wrap z

theorem wu (n : Int) : w64 n = n % 18446744073709551616 := by simp [w64, IntKind.wrap, IntKind.bits, IntKind.signed]
theorem wi (n : Int) : i64 n = (n + 9223372036854775808) % 18446744073709551616 - 9223372036854775808 := IntKind.wrap_i64 n

end Go.Proofs.YtlfohmdclcdejaaDoor
