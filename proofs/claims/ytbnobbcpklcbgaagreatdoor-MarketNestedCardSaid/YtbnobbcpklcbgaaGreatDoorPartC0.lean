/-
  Closed facts of the row marketNestedRow, asked of the kernel one by one (7 of 8).
-/
import Derived.Test.YtbnobbcpklcbgaaGreatDoorPartB9
import Derived.Test.YtbnobbcpklcbgaaGreatDoorRows
import Derived.JoinedOf
set_option linter.all false
set_option autoImplicit true
set_option relaxedAutoImplicit true
namespace Go.Proofs.YtbnobbcpklcbgaaGreatDoor.Nested
open Go
theorem jf25 : (Tryz.prog.mayEnter) = true := by kernel_rfl
theorem jf24 : (Tryz.prog.stopsHeard) = true := by kernel_rfl
end Go.Proofs.YtbnobbcpklcbgaaGreatDoor.Nested

