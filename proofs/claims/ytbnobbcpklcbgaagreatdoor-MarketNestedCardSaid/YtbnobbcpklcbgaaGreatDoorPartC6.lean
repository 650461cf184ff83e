/-
  MarketNested: closed facts of the card, asked of the kernel one by one.
-/
import Derived.Test.YtbnobbcpklcbgaaGreatDoorPartC5
import Derived.SevenTiedAt
set_option linter.all false
set_option autoImplicit true
set_option relaxedAutoImplicit true
namespace Go.Proofs.YtbnobbcpklcbgaaGreatDoor.Nested
open Go
theorem cf3 : Tryz.prog.funcNamed "rialto/rialtolaw24.MarketNested" = some 5 := by kernel_rfl
theorem cf4 : Tryz.prog.wantsStandIn 22 = false := by kernel_rfl
theorem cf5 : Tryz.prog.wantsStandIn 5 = false := by kernel_rfl
end Go.Proofs.YtbnobbcpklcbgaaGreatDoor.Nested

