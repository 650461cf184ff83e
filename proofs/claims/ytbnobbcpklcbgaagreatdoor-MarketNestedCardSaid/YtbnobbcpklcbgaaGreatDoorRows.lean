/-
  NARROWER THAN 'FOR EVERY INPUT', by the rows' own cells (each row's printed sentence says how): MarketTables: laid · MarketTold: laid · MarketNested: laid.
  DERIVED. THE GIVEN ROWS OF THIS SEAT. 3 by the template 'for every input the law returns true; each argument reads behind the call as it read before'; 0 by the template 'total and deterministic' (their statements: YtbnobbcpklcbgaaGreatDoorTotals.lean).
  GIVEN WITH THE SEED: the statements are not yours to turn. If you find one false, say at which input.
  Laid BY PROGRAM, IN A SANDBOX (cutbox-rows.mjs): the forced cells as the released guide's own fill.sh prints them over the translation de85405c4be9803c… (all of the seat's roots in one cut). By AI agents, Wed Nov 11 2026. No macro, syntax, notation, axiom, sorry.
-/
import Derived.Test.YtbnobbcpklcbgaaGreatDoorChecked
import GoSem.Claim
import GoSem.ClaimJoined
import GoSem.ClaimMapViews
import Derived.JoinedTies
import Derived.KernelRfl
namespace Go.Proofs.YtbnobbcpklcbgaaGreatDoor
/- THE CELL 'sum', in the pinned program and in every row, IS THE sha256 OF THE DUMP (.gsa) THAT YtbnobbcpklcbgaaGreatDoorProg.lean LOADS. Nothing in Lean hashes anything: it is a label: what it is worth is what the hold of that sum in a sandbox is worth. -/
noncomputable def Tryz.pinned : Pinned := { name := "ytbnobbcpklcbgaagreatdoor", sum := "de85405c4be9803caba64a00e37b682aade9bdc63d1c61d8c7e70e223cfa6a8f", checked := Tryz.checked }
namespace Rows
def none {H : Type} : Left H := { results := [], args := [] }

/- WHAT THE LISTED PACKAGE-LEVEL VARIABLES READ AS WHEN THE CALL BEGINS. Each datum BY PROGRAM (the guide's laid-datum.mjs) off the statement by which the dump's own 'gosem.cut.vars' lays the variable. In a bare row this is a premise. The card (YtbnobbcpklcbgaaGreatDoorCards.lean) ties it to the program's text. -/
def laid_errors_errorType {H : Type} : DataW H := .iface "internal/reflectlite.rtype" (.agg [.ptr (.lit (.string [101, 114, 114, 111, 114]))])

/-- 'rialtolaw24.MarketTables': WHATEVER THE INPUT: true; the input reads as it did. -/
def marketTablesSpec : ChangeSpec := { name := "marketTables", fn := fun _ => fun
  | [d1, d2] => { results := [.lit (.bool true)], args := [d1, d2] }
  | _ => none }
def marketTablesRow : OpenClaim := { program := "ytbnobbcpklcbgaagreatdoor", sum := "de85405c4be9803caba64a00e37b682aade9bdc63d1c61d8c7e70e223cfa6a8f", func := "rialto/rialtolaw24.MarketTables", spec := "marketTables", inPlace := ["math.Float64bits", "internal/bytealg.abigen_runtime_cmpstring", "internal/reflectlite.ValueOf", "(internal/reflectlite.Value).Type", "(internal/reflectlite.Value).IsNil", "internal/reflectlite.TypeOf", "(internal/reflectlite.Value).Elem", "(internal/reflectlite.Value).Set", "slices.overlaps[int64]", "slices.overlaps[rialto/api.Entry]", "slices.overlaps[*rialto/tree.node[rialto/api.Entry]]", "slices.overlaps[*rialto/tree.node[int64]]"], unfollowed := true, recurses := true, named := ["errors.errorType"], apart := false, laid := [("errors.errorType", laid_errors_errorType)] }
def MarketTablesSaid : Prop := marketTablesRow.holds Tryz.pinned (OpenSpec.ofChange marketTablesSpec)

/-- ITS FALSE NEIGHBOUR: 'it returns false'. Refute it at one input. -/
def marketTablesWrong : ChangeSpec := { name := "marketTables", fn := fun _ => fun
  | [d1, d2] => { results := [.lit (.bool false)], args := [d1, d2] }
  | _ => none }
def MarketTablesWrongFalsely : Prop := marketTablesRow.holds Tryz.pinned (OpenSpec.ofChange marketTablesWrong)

/-- 'rialtolaw24.MarketTold': WHATEVER THE INPUT: true; the input reads as it did. -/
def marketToldSpec : ChangeSpec := { name := "marketTold", fn := fun _ => fun
  | [d1, d2] => { results := [.lit (.bool true)], args := [d1, d2] }
  | _ => none }
def marketToldRow : OpenClaim := { program := "ytbnobbcpklcbgaagreatdoor", sum := "de85405c4be9803caba64a00e37b682aade9bdc63d1c61d8c7e70e223cfa6a8f", func := "rialto/rialtolaw24.MarketTold", spec := "marketTold", inPlace := ["math.Float64bits", "internal/bytealg.abigen_runtime_cmpstring", "internal/reflectlite.ValueOf", "(internal/reflectlite.Value).Type", "(internal/reflectlite.Value).IsNil", "internal/reflectlite.TypeOf", "(internal/reflectlite.Value).Elem", "(internal/reflectlite.Value).Set", "slices.overlaps[int64]", "slices.overlaps[rialto/api.Entry]", "slices.overlaps[*rialto/tree.node[rialto/api.Entry]]", "slices.overlaps[*rialto/tree.node[int64]]", "math.Float64frombits"], unfollowed := true, recurses := true, named := ["errors.errorType"], apart := false, laid := [("errors.errorType", laid_errors_errorType)] }
def MarketToldSaid : Prop := marketToldRow.holds Tryz.pinned (OpenSpec.ofChange marketToldSpec)

/-- ITS FALSE NEIGHBOUR: 'it returns false'. Refute it at one input. -/
def marketToldWrong : ChangeSpec := { name := "marketTold", fn := fun _ => fun
  | [d1, d2] => { results := [.lit (.bool false)], args := [d1, d2] }
  | _ => none }
def MarketToldWrongFalsely : Prop := marketToldRow.holds Tryz.pinned (OpenSpec.ofChange marketToldWrong)

/-- 'rialtolaw24.MarketNested': WHATEVER THE INPUT: true; the input reads as it did. -/
def marketNestedSpec : ChangeSpec := { name := "marketNested", fn := fun _ => fun
  | [d1, d2] => { results := [.lit (.bool true)], args := [d1, d2] }
  | _ => none }
def marketNestedRow : OpenClaim := { program := "ytbnobbcpklcbgaagreatdoor", sum := "de85405c4be9803caba64a00e37b682aade9bdc63d1c61d8c7e70e223cfa6a8f", func := "rialto/rialtolaw24.MarketNested", spec := "marketNested", inPlace := ["math.Float64bits", "internal/bytealg.abigen_runtime_cmpstring", "internal/reflectlite.ValueOf", "(internal/reflectlite.Value).Type", "(internal/reflectlite.Value).IsNil", "internal/reflectlite.TypeOf", "(internal/reflectlite.Value).Elem", "(internal/reflectlite.Value).Set", "slices.overlaps[int64]", "slices.overlaps[rialto/api.Entry]", "slices.overlaps[*rialto/tree.node[rialto/api.Entry]]", "slices.overlaps[*rialto/tree.node[int64]]", "math.Float64frombits"], unfollowed := true, recurses := true, named := ["errors.errorType"], apart := false, laid := [("errors.errorType", laid_errors_errorType)] }
def MarketNestedSaid : Prop := marketNestedRow.holds Tryz.pinned (OpenSpec.ofChange marketNestedSpec)

/-- ITS FALSE NEIGHBOUR: 'it returns false'. Refute it at one input. -/
def marketNestedWrong : ChangeSpec := { name := "marketNested", fn := fun _ => fun
  | [d1, d2] => { results := [.lit (.bool false)], args := [d1, d2] }
  | _ => none }
def MarketNestedWrongFalsely : Prop := marketNestedRow.holds Tryz.pinned (OpenSpec.ofChange marketNestedWrong)

/- THE SECOND FORM. 'bulk': how many values and letters a reading holds, each counted each time it is reached (what is shared counts as often as it is met; a slice's spare places count too). A statement '..UptoSaid' is the law's where the arguments, and the package variables that the reading takes, are together of bulk at most 1048576: NARROWER than '..Said'. Prove '..Said' where nothing that the law and all that it calls make is longer than what came in: it says more and counts as full. Else prove '..UptoSaid'. A law counts once. -/
mutual
def uptoBulk {H : Type} : DataW H → Nat
  | .lit (.string bytes) => bytes.length + 1
  | .lit _ => 1
  | .nil => 1
  | .ptr d => uptoBulk d + 1
  | .slice elems spare => uptoBulkAll elems + uptoBulkAll spare + 1
  | .agg parts => uptoBulkAll parts + 1
  | .iface _ d => uptoBulk d + 1
  | .map entries => uptoBulkEntries entries + 1
  | .held _ => 1
def uptoBulkAll {H : Type} : List (DataW H) → Nat
  | [] => 0
  | d :: r => uptoBulk d + uptoBulkAll r
def uptoBulkEntries {H : Type} : List (Lit × DataW H) → Nat
  | [] => 0
  | x :: r => uptoBulkEntry x + uptoBulkEntries r
def uptoBulkEntry {H : Type} : Lit × DataW H → Nat
  | (.string bytes, d) => bytes.length + uptoBulk d + 1
  | (_, d) => uptoBulk d + 1
 end
def uptoSmall : (H : Type) → List (DataW H) → Bool := fun _ ds => decide (uptoBulkAll ds ≤ 1048576)
def OpenSpec.upto (s : _root_.Go.ChangeSpec) : _root_.Go.OpenSpec := { _root_.Go.OpenSpec.ofChange s with cond := some uptoSmall }

/-- 'rialtolaw24.MarketTables', WHERE WHAT IT READS IS OF BULK AT MOST 1048576: true; the input reads as it did. -/
def marketTablesUptoRow : OpenClaim := { program := "ytbnobbcpklcbgaagreatdoor", sum := "de85405c4be9803caba64a00e37b682aade9bdc63d1c61d8c7e70e223cfa6a8f", func := "rialto/rialtolaw24.MarketTables", spec := "marketTables", inPlace := ["math.Float64bits", "internal/bytealg.abigen_runtime_cmpstring", "internal/reflectlite.ValueOf", "(internal/reflectlite.Value).Type", "(internal/reflectlite.Value).IsNil", "internal/reflectlite.TypeOf", "(internal/reflectlite.Value).Elem", "(internal/reflectlite.Value).Set", "slices.overlaps[int64]", "slices.overlaps[rialto/api.Entry]", "slices.overlaps[*rialto/tree.node[rialto/api.Entry]]", "slices.overlaps[*rialto/tree.node[int64]]"], unfollowed := true, recurses := true, named := ["errors.errorType"], apart := false, laid := [("errors.errorType", laid_errors_errorType)], narrowed := true }
def MarketTablesUptoSaid : Prop := marketTablesUptoRow.holds Tryz.pinned (OpenSpec.upto marketTablesSpec)

/-- 'rialtolaw24.MarketTold', WHERE WHAT IT READS IS OF BULK AT MOST 1048576: true; the input reads as it did. -/
def marketToldUptoRow : OpenClaim := { program := "ytbnobbcpklcbgaagreatdoor", sum := "de85405c4be9803caba64a00e37b682aade9bdc63d1c61d8c7e70e223cfa6a8f", func := "rialto/rialtolaw24.MarketTold", spec := "marketTold", inPlace := ["math.Float64bits", "internal/bytealg.abigen_runtime_cmpstring", "internal/reflectlite.ValueOf", "(internal/reflectlite.Value).Type", "(internal/reflectlite.Value).IsNil", "internal/reflectlite.TypeOf", "(internal/reflectlite.Value).Elem", "(internal/reflectlite.Value).Set", "slices.overlaps[int64]", "slices.overlaps[rialto/api.Entry]", "slices.overlaps[*rialto/tree.node[rialto/api.Entry]]", "slices.overlaps[*rialto/tree.node[int64]]", "math.Float64frombits"], unfollowed := true, recurses := true, named := ["errors.errorType"], apart := false, laid := [("errors.errorType", laid_errors_errorType)], narrowed := true }
def MarketToldUptoSaid : Prop := marketToldUptoRow.holds Tryz.pinned (OpenSpec.upto marketToldSpec)

/-- 'rialtolaw24.MarketNested', WHERE WHAT IT READS IS OF BULK AT MOST 1048576: true; the input reads as it did. -/
def marketNestedUptoRow : OpenClaim := { program := "ytbnobbcpklcbgaagreatdoor", sum := "de85405c4be9803caba64a00e37b682aade9bdc63d1c61d8c7e70e223cfa6a8f", func := "rialto/rialtolaw24.MarketNested", spec := "marketNested", inPlace := ["math.Float64bits", "internal/bytealg.abigen_runtime_cmpstring", "internal/reflectlite.ValueOf", "(internal/reflectlite.Value).Type", "(internal/reflectlite.Value).IsNil", "internal/reflectlite.TypeOf", "(internal/reflectlite.Value).Elem", "(internal/reflectlite.Value).Set", "slices.overlaps[int64]", "slices.overlaps[rialto/api.Entry]", "slices.overlaps[*rialto/tree.node[rialto/api.Entry]]", "slices.overlaps[*rialto/tree.node[int64]]", "math.Float64frombits"], unfollowed := true, recurses := true, named := ["errors.errorType"], apart := false, laid := [("errors.errorType", laid_errors_errorType)], narrowed := true }
def MarketNestedUptoSaid : Prop := marketNestedUptoRow.holds Tryz.pinned (OpenSpec.upto marketNestedSpec)

end Rows
end Go.Proofs.YtbnobbcpklcbgaaGreatDoor
