/-
  NARROWER THAN 'FOR EVERY INPUT', by the rows' own cells (each row's printed sentence says how): SyntaxParentheses: laid · SyntaxBinds: laid · SyntaxDeep: laid · SyntaxValid: loops, laid · SyntaxNames: loops, laid.
  DERIVED. THE GIVEN ROWS OF THIS SEAT. 5 by the template 'for every input the law returns true; each argument reads behind the call as it read before'; 0 by the template 'total and deterministic' (their statements: YtaepiiediblleaaDoorTotals.lean).
  GIVEN WITH THE SEED: the statements are not yours to turn. If you find one false, say at which input.
  Laid BY PROGRAM, IN A SANDBOX (cutbox-rows.mjs): the forced cells as the released guide's own fill.sh prints them over the translation d05c5b98092ca8a1… (all of the seat's roots in one cut). By AI agents, Wed Nov 11 2026. No macro, syntax, notation, axiom, sorry.
-/
import Derived.Test.YtaepiiediblleaaDoorChecked
import GoSem.Claim
import GoSem.ClaimJoined
import GoSem.ClaimMapViews
import Derived.JoinedTies
import Derived.KernelRfl
namespace Go.Proofs.YtaepiiediblleaaDoor
/- THE CELL 'sum', in the pinned program and in every row, IS THE sha256 OF THE DUMP (.gsa) THAT YtaepiiediblleaaDoorProg.lean LOADS. Nothing in Lean hashes anything: it is a label: what it is worth is what the hold of that sum in a sandbox is worth. -/
noncomputable def Tryd.pinned : Pinned := { name := "ytaepiiediblleaadoor", sum := "d05c5b98092ca8a12521995cd79d77ed17542751a0a3201dc451432fc5629120", checked := Tryd.checked }
namespace Rows
def none {H : Type} : Left H := { results := [], args := [] }

/- WHAT THE LISTED PACKAGE-LEVEL VARIABLES READ AS WHEN THE CALL BEGINS. Each datum BY PROGRAM (the guide's laid-datum.mjs) off the statement by which the dump's own 'gosem.cut.vars' lays the variable. In a bare row this is a premise. The card (YtaepiiediblleaaDoorCards.lean) ties it to the program's text. -/
def laid_treaty_calendar_lengths {H : Type} : DataW H := .agg [.lit (.int .i64 31), .lit (.int .i64 28), .lit (.int .i64 31), .lit (.int .i64 30), .lit (.int .i64 31), .lit (.int .i64 30), .lit (.int .i64 31), .lit (.int .i64 31), .lit (.int .i64 30), .lit (.int .i64 31), .lit (.int .i64 30), .lit (.int .i64 31)]
def laid_treaty_syntax_operators {H : Type} : DataW H := .agg [.agg [.lit (.string []), .lit (.bool false), .lit (.int .i64 0), .lit (.int .i64 0), .lit (.int .i64 0)], .agg [.lit (.string [116, 114, 117, 101]), .lit (.bool false), .lit (.int .i64 0), .lit (.int .i64 0), .lit (.int .i64 0)], .agg [.lit (.string [102, 97, 108, 115, 101]), .lit (.bool false), .lit (.int .i64 0), .lit (.int .i64 0), .lit (.int .i64 0)], .agg [.lit (.string []), .lit (.bool true), .lit (.int .i64 0), .lit (.int .i64 0), .lit (.int .i64 0)], .agg [.lit (.string [105, 110]), .lit (.bool true), .lit (.int .i64 0), .lit (.int .i64 0), .lit (.int .i64 0)], .agg [.lit (.string [102, 114, 111, 109]), .lit (.bool true), .lit (.int .i64 0), .lit (.int .i64 0), .lit (.int .i64 0)], .agg [.lit (.string [110, 111, 116]), .lit (.bool false), .lit (.int .i64 1), .lit (.int .i64 1), .lit (.int .i64 3)], .agg [.lit (.string [97, 110, 100]), .lit (.bool false), .lit (.int .i64 2), .lit (.int .i64 300), .lit (.int .i64 2)], .agg [.lit (.string [111, 114]), .lit (.bool false), .lit (.int .i64 2), .lit (.int .i64 300), .lit (.int .i64 1)]]

/-- 'treatylaw07.SyntaxParentheses': WHATEVER THE INPUT: true; the input reads as it did. -/
def syntaxParenthesesSpec : ChangeSpec := { name := "syntaxParentheses", fn := fun _ => fun
  | [d1, d2] => { results := [.lit (.bool true)], args := [d1, d2] }
  | _ => none }
def syntaxParenthesesRow : OpenClaim := { program := "ytaepiiediblleaadoor", sum := "d05c5b98092ca8a12521995cd79d77ed17542751a0a3201dc451432fc5629120", func := "treaty/treatylaw07.SyntaxParentheses", spec := "syntaxParentheses", unfollowed := true, recurses := true, named := ["treaty/calendar.lengths", "treaty/syntax.operators"], apart := false, laid := [("treaty/calendar.lengths", laid_treaty_calendar_lengths), ("treaty/syntax.operators", laid_treaty_syntax_operators)] }
def SyntaxParenthesesSaid : Prop := syntaxParenthesesRow.holds Tryd.pinned (OpenSpec.ofChange syntaxParenthesesSpec)

/-- ITS FALSE NEIGHBOUR: 'it returns false'. Refute it at one input. -/
def syntaxParenthesesWrong : ChangeSpec := { name := "syntaxParentheses", fn := fun _ => fun
  | [d1, d2] => { results := [.lit (.bool false)], args := [d1, d2] }
  | _ => none }
def SyntaxParenthesesWrongFalsely : Prop := syntaxParenthesesRow.holds Tryd.pinned (OpenSpec.ofChange syntaxParenthesesWrong)

/-- 'treatylaw07.SyntaxBinds': WHATEVER THE INPUT: true; the input reads as it did. -/
def syntaxBindsSpec : ChangeSpec := { name := "syntaxBinds", fn := fun _ => fun
  | [d1, d2, d3] => { results := [.lit (.bool true)], args := [d1, d2, d3] }
  | _ => none }
def syntaxBindsRow : OpenClaim := { program := "ytaepiiediblleaadoor", sum := "d05c5b98092ca8a12521995cd79d77ed17542751a0a3201dc451432fc5629120", func := "treaty/treatylaw07.SyntaxBinds", spec := "syntaxBinds", unfollowed := true, recurses := true, named := ["treaty/calendar.lengths", "treaty/syntax.operators"], apart := false, laid := [("treaty/calendar.lengths", laid_treaty_calendar_lengths), ("treaty/syntax.operators", laid_treaty_syntax_operators)] }
def SyntaxBindsSaid : Prop := syntaxBindsRow.holds Tryd.pinned (OpenSpec.ofChange syntaxBindsSpec)

/-- ITS FALSE NEIGHBOUR: 'it returns false'. Refute it at one input. -/
def syntaxBindsWrong : ChangeSpec := { name := "syntaxBinds", fn := fun _ => fun
  | [d1, d2, d3] => { results := [.lit (.bool false)], args := [d1, d2, d3] }
  | _ => none }
def SyntaxBindsWrongFalsely : Prop := syntaxBindsRow.holds Tryd.pinned (OpenSpec.ofChange syntaxBindsWrong)

/-- 'treatylaw07.SyntaxDeep': WHATEVER THE INPUT: true; the input reads as it did. -/
def syntaxDeepSpec : ChangeSpec := { name := "syntaxDeep", fn := fun _ => fun
  | [d1, d2] => { results := [.lit (.bool true)], args := [d1, d2] }
  | _ => none }
def syntaxDeepRow : OpenClaim := { program := "ytaepiiediblleaadoor", sum := "d05c5b98092ca8a12521995cd79d77ed17542751a0a3201dc451432fc5629120", func := "treaty/treatylaw07.SyntaxDeep", spec := "syntaxDeep", unfollowed := true, recurses := true, named := ["treaty/syntax.operators", "treaty/calendar.lengths"], apart := false, laid := [("treaty/calendar.lengths", laid_treaty_calendar_lengths), ("treaty/syntax.operators", laid_treaty_syntax_operators)] }
def SyntaxDeepSaid : Prop := syntaxDeepRow.holds Tryd.pinned (OpenSpec.ofChange syntaxDeepSpec)

/-- ITS FALSE NEIGHBOUR: 'it returns false'. Refute it at one input. -/
def syntaxDeepWrong : ChangeSpec := { name := "syntaxDeep", fn := fun _ => fun
  | [d1, d2] => { results := [.lit (.bool false)], args := [d1, d2] }
  | _ => none }
def SyntaxDeepWrongFalsely : Prop := syntaxDeepRow.holds Tryd.pinned (OpenSpec.ofChange syntaxDeepWrong)

/-- 'treatylaw07.SyntaxValid': WHATEVER THE INPUT: true; the input reads as it did. -/
def syntaxValidSpec : ChangeSpec := { name := "syntaxValid", fn := fun _ => fun
  | [d1, d2, d3, d4] => { results := [.lit (.bool true)], args := [d1, d2, d3, d4] }
  | _ => none }
def syntaxValidRow : OpenClaim := { program := "ytaepiiediblleaadoor", sum := "d05c5b98092ca8a12521995cd79d77ed17542751a0a3201dc451432fc5629120", func := "treaty/treatylaw07.SyntaxValid", spec := "syntaxValid", unfollowed := true, recurses := true, named := ["treaty/calendar.lengths", "treaty/syntax.operators"], loops := true, apart := false, laid := [("treaty/calendar.lengths", laid_treaty_calendar_lengths), ("treaty/syntax.operators", laid_treaty_syntax_operators)] }
def SyntaxValidSaid : Prop := syntaxValidRow.holds Tryd.pinned (OpenSpec.ofChange syntaxValidSpec)

/-- ITS FALSE NEIGHBOUR: 'it returns false'. Refute it at one input. -/
def syntaxValidWrong : ChangeSpec := { name := "syntaxValid", fn := fun _ => fun
  | [d1, d2, d3, d4] => { results := [.lit (.bool false)], args := [d1, d2, d3, d4] }
  | _ => none }
def SyntaxValidWrongFalsely : Prop := syntaxValidRow.holds Tryd.pinned (OpenSpec.ofChange syntaxValidWrong)

/-- 'treatylaw07.SyntaxNames': WHATEVER THE INPUT: true; the input reads as it did. -/
def syntaxNamesSpec : ChangeSpec := { name := "syntaxNames", fn := fun _ => fun
  | [d1, d2] => { results := [.lit (.bool true)], args := [d1, d2] }
  | _ => none }
def syntaxNamesRow : OpenClaim := { program := "ytaepiiediblleaadoor", sum := "d05c5b98092ca8a12521995cd79d77ed17542751a0a3201dc451432fc5629120", func := "treaty/treatylaw07.SyntaxNames", spec := "syntaxNames", unfollowed := true, recurses := true, named := ["treaty/calendar.lengths", "treaty/syntax.operators"], loops := true, apart := false, laid := [("treaty/calendar.lengths", laid_treaty_calendar_lengths), ("treaty/syntax.operators", laid_treaty_syntax_operators)] }
def SyntaxNamesSaid : Prop := syntaxNamesRow.holds Tryd.pinned (OpenSpec.ofChange syntaxNamesSpec)

/-- ITS FALSE NEIGHBOUR: 'it returns false'. Refute it at one input. -/
def syntaxNamesWrong : ChangeSpec := { name := "syntaxNames", fn := fun _ => fun
  | [d1, d2] => { results := [.lit (.bool false)], args := [d1, d2] }
  | _ => none }
def SyntaxNamesWrongFalsely : Prop := syntaxNamesRow.holds Tryd.pinned (OpenSpec.ofChange syntaxNamesWrong)

/- THE SECOND FORM. 'bulk': how many values and letters a reading holds, each counted each time it is reached (what is shared counts as often as it is met; a slice's spare places count too). A statement '..UptoSaid' is the law's where the arguments, and the package variables that the reading takes, are together of bulk at most 1048576: NARROWER than '..Said'. Prove '..Said' where nothing that the law and all that it calls make is longer than what came in: it says more and counts as full. Else prove '..UptoSaid'. A law counts once. -/
mutual
def uptoBulk {H : Type} : DataW H → Nat
  | .lit (.string bytes) => bytes.length + 1
  | .lit _ => 1
  | .nil => 1
  | .ptr d => uptoBulk d + 1
  | .slice elems spare => uptoBulkAll elems + uptoBulkAll spare + 1
  | .agg parts => uptoBulkAll parts + 1
  | .iface _ d => uptoBulk d + 1
  | .map entries => uptoBulkEntries entries + 1
  | .held _ => 1
def uptoBulkAll {H : Type} : List (DataW H) → Nat
  | [] => 0
  | d :: r => uptoBulk d + uptoBulkAll r
def uptoBulkEntries {H : Type} : List (Lit × DataW H) → Nat
  | [] => 0
  | x :: r => uptoBulkEntry x + uptoBulkEntries r
def uptoBulkEntry {H : Type} : Lit × DataW H → Nat
  | (.string bytes, d) => bytes.length + uptoBulk d + 1
  | (_, d) => uptoBulk d + 1
 end
def uptoSmall : (H : Type) → List (DataW H) → Bool := fun _ ds => decide (uptoBulkAll ds ≤ 1048576)
def OpenSpec.upto (s : _root_.Go.ChangeSpec) : _root_.Go.OpenSpec := { _root_.Go.OpenSpec.ofChange s with cond := some uptoSmall }

/-- 'treatylaw07.SyntaxParentheses', WHERE WHAT IT READS IS OF BULK AT MOST 1048576: true; the input reads as it did. -/
def syntaxParenthesesUptoRow : OpenClaim := { program := "ytaepiiediblleaadoor", sum := "d05c5b98092ca8a12521995cd79d77ed17542751a0a3201dc451432fc5629120", func := "treaty/treatylaw07.SyntaxParentheses", spec := "syntaxParentheses", unfollowed := true, recurses := true, named := ["treaty/calendar.lengths", "treaty/syntax.operators"], apart := false, laid := [("treaty/calendar.lengths", laid_treaty_calendar_lengths), ("treaty/syntax.operators", laid_treaty_syntax_operators)], narrowed := true }
def SyntaxParenthesesUptoSaid : Prop := syntaxParenthesesUptoRow.holds Tryd.pinned (OpenSpec.upto syntaxParenthesesSpec)

/-- 'treatylaw07.SyntaxBinds', WHERE WHAT IT READS IS OF BULK AT MOST 1048576: true; the input reads as it did. -/
def syntaxBindsUptoRow : OpenClaim := { program := "ytaepiiediblleaadoor", sum := "d05c5b98092ca8a12521995cd79d77ed17542751a0a3201dc451432fc5629120", func := "treaty/treatylaw07.SyntaxBinds", spec := "syntaxBinds", unfollowed := true, recurses := true, named := ["treaty/calendar.lengths", "treaty/syntax.operators"], apart := false, laid := [("treaty/calendar.lengths", laid_treaty_calendar_lengths), ("treaty/syntax.operators", laid_treaty_syntax_operators)], narrowed := true }
def SyntaxBindsUptoSaid : Prop := syntaxBindsUptoRow.holds Tryd.pinned (OpenSpec.upto syntaxBindsSpec)

/-- 'treatylaw07.SyntaxDeep', WHERE WHAT IT READS IS OF BULK AT MOST 1048576: true; the input reads as it did. -/
def syntaxDeepUptoRow : OpenClaim := { program := "ytaepiiediblleaadoor", sum := "d05c5b98092ca8a12521995cd79d77ed17542751a0a3201dc451432fc5629120", func := "treaty/treatylaw07.SyntaxDeep", spec := "syntaxDeep", unfollowed := true, recurses := true, named := ["treaty/syntax.operators", "treaty/calendar.lengths"], apart := false, laid := [("treaty/calendar.lengths", laid_treaty_calendar_lengths), ("treaty/syntax.operators", laid_treaty_syntax_operators)], narrowed := true }
def SyntaxDeepUptoSaid : Prop := syntaxDeepUptoRow.holds Tryd.pinned (OpenSpec.upto syntaxDeepSpec)

/-- 'treatylaw07.SyntaxValid', WHERE WHAT IT READS IS OF BULK AT MOST 1048576: true; the input reads as it did. -/
def syntaxValidUptoRow : OpenClaim := { program := "ytaepiiediblleaadoor", sum := "d05c5b98092ca8a12521995cd79d77ed17542751a0a3201dc451432fc5629120", func := "treaty/treatylaw07.SyntaxValid", spec := "syntaxValid", unfollowed := true, recurses := true, named := ["treaty/calendar.lengths", "treaty/syntax.operators"], loops := true, apart := false, laid := [("treaty/calendar.lengths", laid_treaty_calendar_lengths), ("treaty/syntax.operators", laid_treaty_syntax_operators)], narrowed := true }
def SyntaxValidUptoSaid : Prop := syntaxValidUptoRow.holds Tryd.pinned (OpenSpec.upto syntaxValidSpec)

/-- 'treatylaw07.SyntaxNames', WHERE WHAT IT READS IS OF BULK AT MOST 1048576: true; the input reads as it did. -/
def syntaxNamesUptoRow : OpenClaim := { program := "ytaepiiediblleaadoor", sum := "d05c5b98092ca8a12521995cd79d77ed17542751a0a3201dc451432fc5629120", func := "treaty/treatylaw07.SyntaxNames", spec := "syntaxNames", unfollowed := true, recurses := true, named := ["treaty/calendar.lengths", "treaty/syntax.operators"], loops := true, apart := false, laid := [("treaty/calendar.lengths", laid_treaty_calendar_lengths), ("treaty/syntax.operators", laid_treaty_syntax_operators)], narrowed := true }
def SyntaxNamesUptoSaid : Prop := syntaxNamesUptoRow.holds Tryd.pinned (OpenSpec.upto syntaxNamesSpec)

end Rows
end Go.Proofs.YtaepiiediblleaaDoor
