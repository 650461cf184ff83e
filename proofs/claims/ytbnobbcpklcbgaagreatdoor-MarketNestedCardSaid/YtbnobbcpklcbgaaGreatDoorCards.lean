/-
  DERIVED. GIVEN WITH THE SEED: THE CARDS: each row of YtbnobbcpklcbgaaGreatDoorRows.lean that lists a variable, with what it lists TIED to the program's text (the seventh form; the later family's looks); each row that meets fmt, with fmt's text TOLD by the authors' own Lean function (tested against real Go, not proved from fmt's source: count such statements apart). THE CARD IS WHAT COUNTS. Prove the row's statement (the work); the ties are given (YtbnobbcpklcbgaaGreatDoorTie.lean); close each card by the builder's one call (the guide's Derived/Test/ToyasCard.lean, 'card_holds'). Laid BY PROGRAM, IN A SANDBOX (cutbox-door.mjs). By AI agents, Wed Nov 11 2026. No macro, syntax, notation, axiom, sorry.
-/
import Derived.Test.YtbnobbcpklcbgaaGreatDoorRows
import GoSem.ClaimSeven
namespace Go.Proofs.YtbnobbcpklcbgaaGreatDoor
namespace Rows

/-- THE TIED CARD OF 'rialtolaw24.MarketTables'. -/
def marketTablesCard : Claim7 := { stood := { row := marketTablesRow, standIns := [], harness := (true, "050a15a5e53ba5fde4741ccfa489d1c38586327374b7f600d683c85eb3624f5d"), looks := true }, kinds := [], alts := [], laidByText := true, laidKinds := [.handle], laidTests := true, laidLooks := .later }
def MarketTablesCardSaid : Prop := Claim7.holds Tryz.pinned (.plain (OpenSpec.ofChange marketTablesSpec)) marketTablesCard

/-- THE TIED CARD OF 'rialtolaw24.MarketTold'. -/
def marketToldCard : Claim7 := { stood := { row := marketToldRow, standIns := [], harness := (true, "050a15a5e53ba5fde4741ccfa489d1c38586327374b7f600d683c85eb3624f5d"), looks := true }, kinds := [], alts := [], laidByText := true, laidKinds := [.handle], laidTests := true, laidLooks := .later }
def MarketToldCardSaid : Prop := Claim7.holds Tryz.pinned (.plain (OpenSpec.ofChange marketToldSpec)) marketToldCard

/-- THE TIED CARD OF 'rialtolaw24.MarketNested'. -/
def marketNestedCard : Claim7 := { stood := { row := marketNestedRow, standIns := [], harness := (true, "050a15a5e53ba5fde4741ccfa489d1c38586327374b7f600d683c85eb3624f5d"), looks := true }, kinds := [], alts := [], laidByText := true, laidKinds := [.handle], laidTests := true, laidLooks := .later }
def MarketNestedCardSaid : Prop := Claim7.holds Tryz.pinned (.plain (OpenSpec.ofChange marketNestedSpec)) marketNestedCard

/-- THE SECOND FORM's CARD OF 'rialtolaw24.MarketTables'. -/
def marketTablesUptoCard : Claim7 := { stood := { row := marketTablesUptoRow, standIns := [], harness := (true, "050a15a5e53ba5fde4741ccfa489d1c38586327374b7f600d683c85eb3624f5d"), looks := true }, kinds := [], alts := [], laidByText := true, laidKinds := [.handle], laidTests := true, laidLooks := .later }
def MarketTablesUptoCardSaid : Prop := Claim7.holds Tryz.pinned (.plain (OpenSpec.upto marketTablesSpec)) marketTablesUptoCard

/-- THE SECOND FORM's CARD OF 'rialtolaw24.MarketTold'. -/
def marketToldUptoCard : Claim7 := { stood := { row := marketToldUptoRow, standIns := [], harness := (true, "050a15a5e53ba5fde4741ccfa489d1c38586327374b7f600d683c85eb3624f5d"), looks := true }, kinds := [], alts := [], laidByText := true, laidKinds := [.handle], laidTests := true, laidLooks := .later }
def MarketToldUptoCardSaid : Prop := Claim7.holds Tryz.pinned (.plain (OpenSpec.upto marketToldSpec)) marketToldUptoCard

/-- THE SECOND FORM's CARD OF 'rialtolaw24.MarketNested'. -/
def marketNestedUptoCard : Claim7 := { stood := { row := marketNestedUptoRow, standIns := [], harness := (true, "050a15a5e53ba5fde4741ccfa489d1c38586327374b7f600d683c85eb3624f5d"), looks := true }, kinds := [], alts := [], laidByText := true, laidKinds := [.handle], laidTests := true, laidLooks := .later }
def MarketNestedUptoCardSaid : Prop := Claim7.holds Tryz.pinned (.plain (OpenSpec.upto marketNestedSpec)) marketNestedUptoCard
end Rows
end Go.Proofs.YtbnobbcpklcbgaaGreatDoor
