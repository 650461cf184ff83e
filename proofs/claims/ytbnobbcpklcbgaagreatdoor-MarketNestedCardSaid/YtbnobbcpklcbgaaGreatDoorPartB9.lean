/-
  Closed facts of the row marketNestedRow, asked of the kernel one by one (6 of 8).
-/
import Derived.Test.YtbnobbcpklcbgaaGreatDoorPartB8
import Derived.Test.YtbnobbcpklcbgaaGreatDoorRows
import Derived.JoinedOf
set_option linter.all false
set_option autoImplicit true
set_option relaxedAutoImplicit true
namespace Go.Proofs.YtbnobbcpklcbgaaGreatDoor.Nested
open Go
theorem jf22 : ((Rows.marketNestedRow.plainKeys == Tryz.prog.plainKeys)) = true := by kernel_rfl
theorem jf2 : (mapsRowed Tryz.prog) = true := by kernel_rfl
end Go.Proofs.YtbnobbcpklcbgaaGreatDoor.Nested

