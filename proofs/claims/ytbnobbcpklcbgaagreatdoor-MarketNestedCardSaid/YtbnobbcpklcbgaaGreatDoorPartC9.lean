/-
  MarketNested: for every input the law returns true and its arguments read behind the call as they read before; the one listed package-level variable (errors.errorType) is tied to the program's text. Conditions: those of the given card's row alone.
-/
import Derived.Test.YtbnobbcpklcbgaaGreatDoorPartC8
import Derived.SevenTiedAt
set_option linter.all false
set_option autoImplicit true
set_option relaxedAutoImplicit true
namespace Go.Proofs.YtbnobbcpklcbgaaGreatDoor
open Go
theorem Nested.cf8 : false = Rows.marketNestedRow.goesBy Tryz.prog := by
  have e : Tryz.prog.goesFrom "rialto/rialtolaw24.MarketNested" = false := by
    rw [Program.goesFrom, Nested.cf3, Option.any_some, Program.goes, Nested.cf6, Nested.cf7]; rfl
  have hf : Rows.marketNestedRow.func = "rialto/rialtolaw24.MarketNested" := rfl
  have hs : Rows.marketNestedRow.start = .entering := rfl
  rw [OpenClaim.goesBy, hf, hs, Program.goesAt, e]; rfl
theorem marketNested_card_holds : Rows.MarketNestedCardSaid :=
  Claim7.holds_tied_plain_at .later [] [.handle] true (true, "050a15a5e53ba5fde4741ccfa489d1c38586327374b7f600d683c85eb3624f5d") true
    Nested.said (fun _ h => by cases h) Nested.cf0 (fun _ h => by cases h) marketNested_row_tie rfl ⟨rfl, rfl⟩ Nested.cf1 rfl
    (fun f fn hf hfn => by
      obtain rfl : f = 5 := Option.some.inj (Nested.cf3.symm.trans hf) |>.symm
      obtain rfl : fn = Tryz.f5 := (Option.some.inj (Tryz.func5.symm.trans hfn)).symm
      exact ⟨Nested.cf2, fun j t ht => by
        rw [Tryz.params5] at ht
        rcases j with _ | _ | j
        · obtain rfl : t = 22 := by simpa using ht.symm
          exact Nested.cf4
        · obtain rfl : t = 5 := by simpa using ht.symm
          exact Nested.cf5
        · simp at ht⟩)
    Nested.cf8
end Go.Proofs.YtbnobbcpklcbgaaGreatDoor

