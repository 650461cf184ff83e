/-
  MarketNested: the bare row: for every input the law returns true and its arguments read behind the call as they read before. Conditions: those of the given row alone.
-/
import Derived.Test.YtbnobbcpklcbgaaGreatDoorPartC1
import Derived.JoinedOf
set_option linter.all false
set_option autoImplicit true
set_option relaxedAutoImplicit true
namespace Go.Proofs.YtbnobbcpklcbgaaGreatDoor.Nested
open Go Go.ChangeShapes Go.WideShapes Go.ChangeAt Go.RowKit
theorem said : Rows.MarketNestedSaid :=
  OpenClaim.holds_of_wide 5 Tryz.f5 rfl rfl rfl rfl rfl rfl rfl ⟨rfl, rfl, rfl, rfl, rfl⟩ rfl rfl rfl rfl rfl (by kernel_rfl) Tryz.func5 closed
    (of_decide_eq_true (by kernel_rfl)) (by unfold Func.isWrapper; first | (rw [if_pos (by decide +kernel)]; kernel_rfl) | (rw [if_neg (by decide +kernel)]; exact ⟨rfl, rfl⟩))
    (fun os started H enc _ => lifted os started H enc)
end Go.Proofs.YtbnobbcpklcbgaaGreatDoor.Nested

