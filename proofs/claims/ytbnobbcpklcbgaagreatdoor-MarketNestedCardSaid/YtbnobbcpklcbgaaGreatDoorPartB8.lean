/-
  Closed facts of the row marketNestedRow, asked of the kernel one by one (5 of 8).
-/
import Derived.Test.YtbnobbcpklcbgaaGreatDoorPartB7
import Derived.Test.YtbnobbcpklcbgaaGreatDoorRows
import Derived.JoinedOf
set_option linter.all false
set_option autoImplicit true
set_option relaxedAutoImplicit true
namespace Go.Proofs.YtbnobbcpklcbgaaGreatDoor.Nested
open Go
theorem jf10 : ((Rows.marketNestedRow.unfollowed == Tryz.prog.unfollowed 5)) = true := by kernel_rfl
end Go.Proofs.YtbnobbcpklcbgaaGreatDoor.Nested

