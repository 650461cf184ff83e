/-
  MarketNested: closed facts of the card, asked of the kernel one by one.
-/
import Derived.Test.YtbnobbcpklcbgaaGreatDoorPartC3
import Derived.SevenTiedAt
set_option linter.all false
set_option autoImplicit true
set_option relaxedAutoImplicit true
namespace Go.Proofs.YtbnobbcpklcbgaaGreatDoor.Nested
open Go
theorem cf1 : Tryz.prog.mainIs = some (true, "050a15a5e53ba5fde4741ccfa489d1c38586327374b7f600d683c85eb3624f5d".toList) := by kernel_rfl
end Go.Proofs.YtbnobbcpklcbgaaGreatDoor.Nested

