/-
  MarketNested: closed facts of the card, asked of the kernel one by one.
-/
import Derived.Test.YtbnobbcpklcbgaaGreatDoorPartC7
import Derived.SevenTiedAt
set_option linter.all false
set_option autoImplicit true
set_option relaxedAutoImplicit true
namespace Go.Proofs.YtbnobbcpklcbgaaGreatDoor.Nested
open Go
theorem cf7 : (Tryz.prog.unfollowed 5 && Tryz.prog.funcs.any Func.goes) = false := by kernel_rfl
end Go.Proofs.YtbnobbcpklcbgaaGreatDoor.Nested

