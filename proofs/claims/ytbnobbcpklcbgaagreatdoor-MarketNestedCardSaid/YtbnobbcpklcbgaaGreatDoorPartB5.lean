/-
  Closed facts of the row marketNestedRow, asked of the kernel one by one (2 of 8).
-/
import Derived.Test.YtbnobbcpklcbgaaGreatDoorPartB4
import Derived.Test.YtbnobbcpklcbgaaGreatDoorRows
import Derived.JoinedOf
set_option linter.all false
set_option autoImplicit true
set_option relaxedAutoImplicit true
namespace Go.Proofs.YtbnobbcpklcbgaaGreatDoor.Nested
open Go
theorem jf12 : ((Rows.marketNestedRow.named == Tryz.prog.varsNamed 5)) = true := by kernel_rfl
end Go.Proofs.YtbnobbcpklcbgaaGreatDoor.Nested

