/-
  MarketNested: closed facts of the card, asked of the kernel one by one.
-/
import Derived.Test.YtbnobbcpklcbgaaGreatDoorPartC6
import Derived.SevenTiedAt
set_option linter.all false
set_option autoImplicit true
set_option relaxedAutoImplicit true
namespace Go.Proofs.YtbnobbcpklcbgaaGreatDoor.Nested
open Go
theorem cf6 : ((Tryz.prog.closure 5).any fun g => Option.any Func.goes Tryz.prog.funcs[g]?) = false := by kernel_rfl
end Go.Proofs.YtbnobbcpklcbgaaGreatDoor.Nested

