/-
  MarketNested: closed facts of the card, asked of the kernel one by one.
-/
import Derived.Test.YtbnobbcpklcbgaaGreatDoorPartC4
import Derived.SevenTiedAt
set_option linter.all false
set_option autoImplicit true
set_option relaxedAutoImplicit true
namespace Go.Proofs.YtbnobbcpklcbgaaGreatDoor.Nested
open Go
theorem cf2 : true = Tryz.prog.looks [] := by kernel_rfl
end Go.Proofs.YtbnobbcpklcbgaaGreatDoor.Nested

