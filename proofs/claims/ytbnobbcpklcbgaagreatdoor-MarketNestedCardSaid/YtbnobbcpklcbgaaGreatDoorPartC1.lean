/-
  Closed facts of the row marketNestedRow, asked of the kernel one by one (8 of 8).
-/
import Derived.Test.YtbnobbcpklcbgaaGreatDoorPartC0
import Derived.Test.YtbnobbcpklcbgaaGreatDoorRows
import Derived.JoinedOf
set_option linter.all false
set_option autoImplicit true
set_option relaxedAutoImplicit true
namespace Go.Proofs.YtbnobbcpklcbgaaGreatDoor.Nested
open Go
theorem jf0 : (Rows.marketNestedRow.wf (OpenSpec.ofChange Rows.marketNestedSpec)) = true := by kernel_rfl
theorem jf3 : (Tryz.f5.params.all (Tryz.prog.readableRec ·)) = true := by kernel_rfl
theorem jf4 : (namedTie Tryz.prog Rows.marketNestedRow.named Rows.marketNestedSpec.vars) = true := by kernel_rfl
theorem jf5 : ((Rows.marketNestedRow.stops == [])) = true := by kernel_rfl
theorem jf6 : ((Tryz.prog.stops == [])) = true := by kernel_rfl
theorem jf7 : ((Rows.marketNestedRow.knobs == [])) = true := by kernel_rfl
theorem jf8 : ((Tryz.prog.stopKnobs == [])) = true := by kernel_rfl
theorem jf13 : ((Rows.marketNestedRow.maps == (Tryz.f5.params.toList ++ Rows.marketNestedSpec.plain.varTypes Tryz.prog).any (Tryz.prog.mapsRec ·))) = true := by kernel_rfl
theorem jf14 : ((Rows.marketNestedRow.ifaces == (Tryz.f5.params.toList ++ Rows.marketNestedSpec.plain.varTypes Tryz.prog).any (Tryz.prog.ifacesRec ·))) = true := by kernel_rfl
theorem jf15 : ((Rows.marketNestedRow.mapsOut == Tryz.prog.mapsAmong Tryz.f5.resultTypes.toList)) = true := by kernel_rfl
theorem jf16 : ((Rows.marketNestedRow.loops == (Tryz.f5.params.toList ++ Rows.marketNestedSpec.plain.varTypes Tryz.prog).any (Tryz.prog.loopsFrom ·))) = true := by kernel_rfl
theorem jf17 : ((Rows.marketNestedRow.wideKeys == (Tryz.f5.params.toList ++ Rows.marketNestedSpec.plain.varTypes Tryz.prog ++ Tryz.f5.resultTypes.toList).any (Tryz.prog.wideKeysFrom ·))) = true := by kernel_rfl
theorem jf18 : (Rows.marketNestedSpec.vars.all (Tryz.prog.varReadable ·)) = true := by kernel_rfl
theorem jf19 : (Tryz.f5.resultTypes.all (fun t => Tryz.prog.readableRec t && decide (t < Tryz.prog.types.size))) = true := by kernel_rfl
theorem jf20 : ((Rows.marketNestedRow.ifacesOut == Tryz.f5.resultTypes.toList.any (Tryz.prog.ifacesRec ·))) = true := by kernel_rfl
theorem jf21 : ((Rows.marketNestedRow.loopsOut == Tryz.f5.resultTypes.toList.any (Tryz.prog.loopsFrom ·))) = true := by kernel_rfl
theorem jf23 : (Rows.marketNestedRow.shortTexts.isNone) = true := by kernel_rfl
theorem jf26 : ((Rows.marketNestedRow.lifted == Tryz.prog.liftsFinal)) = true := by kernel_rfl
theorem jf27 : ((Tryz.prog.make == some Rows.marketNestedRow.make)) = true := by kernel_rfl
theorem jf29 : ((Rows.marketNestedRow.pinned == Rows.marketNestedRow.pinnedBy)) = true := by kernel_rfl
theorem jf30 : ((Rows.marketNestedRow.veiled == (Tryz.f5.params.toList ++ Rows.marketNestedSpec.plain.varTypes Tryz.prog ++ Tryz.f5.resultTypes.toList).any (Tryz.prog.veiledRec ·))) = true := by kernel_rfl
theorem jf31 : (Rows.marketNestedRow.veiledFits Tryz.prog Tryz.f5.params.toList (Tryz.f5.params.toList ++ Rows.marketNestedSpec.plain.varTypes Tryz.prog ++ Tryz.f5.resultTypes.toList)) = true := by kernel_rfl
theorem andT {a b : Bool} (h : a = true) (k : b = true) : (a && b) = true := by rw [h, k]; rfl
theorem closed : joinedFacts Tryz.prog 5 Tryz.f5 Rows.marketNestedSpec Rows.marketNestedRow = true := by
  unfold joinedFacts
  exact (andT (andT (andT (andT (andT (andT (andT (andT (andT (andT (andT (andT (andT (andT (andT (andT (andT (andT (andT (andT (andT (andT (andT (andT (andT (andT (andT (andT (andT (andT (andT jf0 jf1) jf2) jf3) jf4) jf5) jf6) jf7) jf8) jf9) jf10) jf11) jf12) jf13) jf14) jf15) jf16) jf17) jf18) jf19) jf20) jf21) jf22) jf23) jf24) jf25) jf26) jf27) (by kernel_rfl)) jf29) jf30) jf31)
end Go.Proofs.YtbnobbcpklcbgaaGreatDoor.Nested

