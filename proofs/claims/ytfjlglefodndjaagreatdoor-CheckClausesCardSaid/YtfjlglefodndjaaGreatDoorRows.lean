/-
  NARROWER THAN 'FOR EVERY INPUT', by the rows' own cells (each row's printed sentence says how): CheckExpr: loops, laid · CheckClauses: loops, laid.
  DERIVED. THE GIVEN ROWS OF THIS SEAT. 2 by the template 'for every input the law returns true; each argument reads behind the call as it read before'; 0 by the template 'total and deterministic' (their statements: YtfjlglefodndjaaGreatDoorTotals.lean).
  GIVEN WITH THE SEED: the statements are not yours to turn. If you find one false, say at which input.
  Laid BY PROGRAM, IN A SANDBOX (cutbox-rows.mjs): the forced cells as the released guide's own fill.sh prints them over the translation 7fbac0fa0d279182… (all of the seat's roots in one cut). By AI agents, Wed Nov 11 2026. No macro, syntax, notation, axiom, sorry.
-/
import Derived.Test.YtfjlglefodndjaaGreatDoorChecked
import GoSem.Claim
import GoSem.ClaimJoined
import GoSem.ClaimMapViews
import Derived.JoinedTies
import Derived.KernelRfl
namespace Go.Proofs.YtfjlglefodndjaaGreatDoor
/- THE CELL 'sum', in the pinned program and in every row, IS THE sha256 OF THE DUMP (.gsa) THAT YtfjlglefodndjaaGreatDoorProg.lean LOADS. Nothing in Lean hashes anything: it is a label: what it is worth is what the hold of that sum in a sandbox is worth. -/
noncomputable def Tryz.pinned : Pinned := { name := "ytfjlglefodndjaagreatdoor", sum := "7fbac0fa0d2791824fa0214aa9d5a3e67337c1f61162c8c694799e2492d8b52f", checked := Tryz.checked }
namespace Rows
def none {H : Type} : Left H := { results := [], args := [] }

/- WHAT THE LISTED PACKAGE-LEVEL VARIABLES READ AS WHEN THE CALL BEGINS. Each datum BY PROGRAM (the guide's laid-datum.mjs) off the statement by which the dump's own 'gosem.cut.vars' lays the variable. In a bare row this is a premise. The card (YtfjlglefodndjaaGreatDoorCards.lean) ties it to the program's text. -/
def laid_treaty_syntax_operators {H : Type} : DataW H := .agg [.agg [.lit (.string []), .lit (.bool false), .lit (.int .i64 0), .lit (.int .i64 0), .lit (.int .i64 0)], .agg [.lit (.string [116, 114, 117, 101]), .lit (.bool false), .lit (.int .i64 0), .lit (.int .i64 0), .lit (.int .i64 0)], .agg [.lit (.string [102, 97, 108, 115, 101]), .lit (.bool false), .lit (.int .i64 0), .lit (.int .i64 0), .lit (.int .i64 0)], .agg [.lit (.string []), .lit (.bool true), .lit (.int .i64 0), .lit (.int .i64 0), .lit (.int .i64 0)], .agg [.lit (.string [105, 110]), .lit (.bool true), .lit (.int .i64 0), .lit (.int .i64 0), .lit (.int .i64 0)], .agg [.lit (.string [102, 114, 111, 109]), .lit (.bool true), .lit (.int .i64 0), .lit (.int .i64 0), .lit (.int .i64 0)], .agg [.lit (.string [110, 111, 116]), .lit (.bool false), .lit (.int .i64 1), .lit (.int .i64 1), .lit (.int .i64 3)], .agg [.lit (.string [97, 110, 100]), .lit (.bool false), .lit (.int .i64 2), .lit (.int .i64 300), .lit (.int .i64 2)], .agg [.lit (.string [111, 114]), .lit (.bool false), .lit (.int .i64 2), .lit (.int .i64 300), .lit (.int .i64 1)]]

/-- 'treatylaw10.CheckExpr': WHATEVER THE INPUT: true; the input reads as it did. -/
def checkExprSpec : ChangeSpec := { name := "checkExpr", fn := fun _ => fun
  | [d1, d2, d3, d4, d5] => { results := [.lit (.bool true)], args := [d1, d2, d3, d4, d5] }
  | _ => none }
def checkExprRow : OpenClaim := { program := "ytfjlglefodndjaagreatdoor", sum := "7fbac0fa0d2791824fa0214aa9d5a3e67337c1f61162c8c694799e2492d8b52f", func := "treaty/treatylaw10.CheckExpr", spec := "checkExpr", unfollowed := true, recurses := true, named := ["treaty/syntax.operators"], loops := true, apart := false, laid := [("treaty/syntax.operators", laid_treaty_syntax_operators)] }
def CheckExprSaid : Prop := checkExprRow.holds Tryz.pinned (OpenSpec.ofChange checkExprSpec)

/-- ITS FALSE NEIGHBOUR: 'it returns false'. Refute it at one input. -/
def checkExprWrong : ChangeSpec := { name := "checkExpr", fn := fun _ => fun
  | [d1, d2, d3, d4, d5] => { results := [.lit (.bool false)], args := [d1, d2, d3, d4, d5] }
  | _ => none }
def CheckExprWrongFalsely : Prop := checkExprRow.holds Tryz.pinned (OpenSpec.ofChange checkExprWrong)

/-- 'treatylaw10.CheckClauses': WHATEVER THE INPUT: true; the input reads as it did. -/
def checkClausesSpec : ChangeSpec := { name := "checkClauses", fn := fun _ => fun
  | [d1, d2, d3, d4] => { results := [.lit (.bool true)], args := [d1, d2, d3, d4] }
  | _ => none }
def checkClausesRow : OpenClaim := { program := "ytfjlglefodndjaagreatdoor", sum := "7fbac0fa0d2791824fa0214aa9d5a3e67337c1f61162c8c694799e2492d8b52f", func := "treaty/treatylaw10.CheckClauses", spec := "checkClauses", unfollowed := true, recurses := true, named := ["treaty/syntax.operators"], loops := true, apart := false, laid := [("treaty/syntax.operators", laid_treaty_syntax_operators)] }
def CheckClausesSaid : Prop := checkClausesRow.holds Tryz.pinned (OpenSpec.ofChange checkClausesSpec)

/-- ITS FALSE NEIGHBOUR: 'it returns false'. Refute it at one input. -/
def checkClausesWrong : ChangeSpec := { name := "checkClauses", fn := fun _ => fun
  | [d1, d2, d3, d4] => { results := [.lit (.bool false)], args := [d1, d2, d3, d4] }
  | _ => none }
def CheckClausesWrongFalsely : Prop := checkClausesRow.holds Tryz.pinned (OpenSpec.ofChange checkClausesWrong)

/- THE SECOND FORM. 'bulk': how many values and letters a reading holds, each counted each time it is reached (what is shared counts as often as it is met; a slice's spare places count too). A statement '..UptoSaid' is the law's where the arguments, and the package variables that the reading takes, are together of bulk at most 1048576: NARROWER than '..Said'. Prove '..Said' where nothing that the law and all that it calls make is longer than what came in: it says more and counts as full. Else prove '..UptoSaid'. A law counts once. -/
mutual
def uptoBulk {H : Type} : DataW H → Nat
  | .lit (.string bytes) => bytes.length + 1
  | .lit _ => 1
  | .nil => 1
  | .ptr d => uptoBulk d + 1
  | .slice elems spare => uptoBulkAll elems + uptoBulkAll spare + 1
  | .agg parts => uptoBulkAll parts + 1
  | .iface _ d => uptoBulk d + 1
  | .map entries => uptoBulkEntries entries + 1
  | .held _ => 1
def uptoBulkAll {H : Type} : List (DataW H) → Nat
  | [] => 0
  | d :: r => uptoBulk d + uptoBulkAll r
def uptoBulkEntries {H : Type} : List (Lit × DataW H) → Nat
  | [] => 0
  | x :: r => uptoBulkEntry x + uptoBulkEntries r
def uptoBulkEntry {H : Type} : Lit × DataW H → Nat
  | (.string bytes, d) => bytes.length + uptoBulk d + 1
  | (_, d) => uptoBulk d + 1
 end
def uptoSmall : (H : Type) → List (DataW H) → Bool := fun _ ds => decide (uptoBulkAll ds ≤ 1048576)
def OpenSpec.upto (s : _root_.Go.ChangeSpec) : _root_.Go.OpenSpec := { _root_.Go.OpenSpec.ofChange s with cond := some uptoSmall }

/-- 'treatylaw10.CheckExpr', WHERE WHAT IT READS IS OF BULK AT MOST 1048576: true; the input reads as it did. -/
def checkExprUptoRow : OpenClaim := { program := "ytfjlglefodndjaagreatdoor", sum := "7fbac0fa0d2791824fa0214aa9d5a3e67337c1f61162c8c694799e2492d8b52f", func := "treaty/treatylaw10.CheckExpr", spec := "checkExpr", unfollowed := true, recurses := true, named := ["treaty/syntax.operators"], loops := true, apart := false, laid := [("treaty/syntax.operators", laid_treaty_syntax_operators)], narrowed := true }
def CheckExprUptoSaid : Prop := checkExprUptoRow.holds Tryz.pinned (OpenSpec.upto checkExprSpec)

/-- 'treatylaw10.CheckClauses', WHERE WHAT IT READS IS OF BULK AT MOST 1048576: true; the input reads as it did. -/
def checkClausesUptoRow : OpenClaim := { program := "ytfjlglefodndjaagreatdoor", sum := "7fbac0fa0d2791824fa0214aa9d5a3e67337c1f61162c8c694799e2492d8b52f", func := "treaty/treatylaw10.CheckClauses", spec := "checkClauses", unfollowed := true, recurses := true, named := ["treaty/syntax.operators"], loops := true, apart := false, laid := [("treaty/syntax.operators", laid_treaty_syntax_operators)], narrowed := true }
def CheckClausesUptoSaid : Prop := checkClausesUptoRow.holds Tryz.pinned (OpenSpec.upto checkClausesSpec)

end Rows
end Go.Proofs.YtfjlglefodndjaaGreatDoor
