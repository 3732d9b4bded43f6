/-
  NARROWER THAN 'FOR EVERY INPUT', by the rows' own cells (each row's printed sentence says how): DecideVerdict: loops, laid · DecideOrder: laid · DecideMore: laid · DecideTerms: laid · DecideWrites: laid · DecideExplain: laid · DecideAccepts: laid · DecideSound: loops, laid · DecideMissing: laid.
  DERIVED. THE GIVEN ROWS OF THIS SEAT. 9 by the template 'for every input the law returns true; each argument reads behind the call as it read before'; 0 by the template 'total and deterministic' (their statements: YtefjomofjejklaaGreatDoorTotals.lean).
  GIVEN WITH THE SEED: the statements are not yours to turn. If you find one false, say at which input.
  Laid BY PROGRAM, IN A SANDBOX (cutbox-rows.mjs): the forced cells as the released guide's own fill.sh prints them over the translation fb20d53dca7c8e65… (all of the seat's roots in one cut). By AI agents, Wed Nov 11 2026. No macro, syntax, notation, axiom, sorry.
-/
import Derived.Test.YtefjomofjejklaaGreatDoorChecked
import GoSem.Claim
import GoSem.ClaimJoined
import GoSem.ClaimMapViews
import Derived.JoinedTies
import Derived.KernelRfl
namespace Go.Proofs.YtefjomofjejklaaGreatDoor
/- THE CELL 'sum', in the pinned program and in every row, IS THE sha256 OF THE DUMP (.gsa) THAT YtefjomofjejklaaGreatDoorProg.lean LOADS. Nothing in Lean hashes anything: it is a label: what it is worth is what the hold of that sum in a sandbox is worth. -/
noncomputable def Tryz.pinned : Pinned := { name := "ytefjomofjejklaagreatdoor", sum := "fb20d53dca7c8e6552b92442645f2948ea22359edb5feb2d3250d290044529f5", checked := Tryz.checked }
namespace Rows
def none {H : Type} : Left H := { results := [], args := [] }

/- WHAT THE LISTED PACKAGE-LEVEL VARIABLES READ AS WHEN THE CALL BEGINS. Each datum BY PROGRAM (the guide's laid-datum.mjs) off the statement by which the dump's own 'gosem.cut.vars' lays the variable. In a bare row this is a premise. The card (YtefjomofjejklaaGreatDoorCards.lean) ties it to the program's text. -/
def laid_treaty_syntax_operators {H : Type} : DataW H := .agg [.agg [.lit (.string []), .lit (.bool false), .lit (.int .i64 0), .lit (.int .i64 0), .lit (.int .i64 0)], .agg [.lit (.string [116, 114, 117, 101]), .lit (.bool false), .lit (.int .i64 0), .lit (.int .i64 0), .lit (.int .i64 0)], .agg [.lit (.string [102, 97, 108, 115, 101]), .lit (.bool false), .lit (.int .i64 0), .lit (.int .i64 0), .lit (.int .i64 0)], .agg [.lit (.string []), .lit (.bool true), .lit (.int .i64 0), .lit (.int .i64 0), .lit (.int .i64 0)], .agg [.lit (.string [105, 110]), .lit (.bool true), .lit (.int .i64 0), .lit (.int .i64 0), .lit (.int .i64 0)], .agg [.lit (.string [102, 114, 111, 109]), .lit (.bool true), .lit (.int .i64 0), .lit (.int .i64 0), .lit (.int .i64 0)], .agg [.lit (.string [110, 111, 116]), .lit (.bool false), .lit (.int .i64 1), .lit (.int .i64 1), .lit (.int .i64 3)], .agg [.lit (.string [97, 110, 100]), .lit (.bool false), .lit (.int .i64 2), .lit (.int .i64 300), .lit (.int .i64 2)], .agg [.lit (.string [111, 114]), .lit (.bool false), .lit (.int .i64 2), .lit (.int .i64 300), .lit (.int .i64 1)]]

/-- 'treatylaw12.DecideVerdict': WHATEVER THE INPUT: true; the input reads as it did. -/
def decideVerdictSpec : ChangeSpec := { name := "decideVerdict", fn := fun _ => fun
  | [d1, d2, d3, d4, d5, d6] => { results := [.lit (.bool true)], args := [d1, d2, d3, d4, d5, d6] }
  | _ => none }
def decideVerdictRow : OpenClaim := { program := "ytefjomofjejklaagreatdoor", sum := "fb20d53dca7c8e6552b92442645f2948ea22359edb5feb2d3250d290044529f5", func := "treaty/treatylaw12.DecideVerdict", spec := "decideVerdict", unfollowed := true, recurses := true, named := ["treaty/syntax.operators"], loops := true, apart := false, laid := [("treaty/syntax.operators", laid_treaty_syntax_operators)] }
def DecideVerdictSaid : Prop := decideVerdictRow.holds Tryz.pinned (OpenSpec.ofChange decideVerdictSpec)

/-- ITS FALSE NEIGHBOUR: 'it returns false'. Refute it at one input. -/
def decideVerdictWrong : ChangeSpec := { name := "decideVerdict", fn := fun _ => fun
  | [d1, d2, d3, d4, d5, d6] => { results := [.lit (.bool false)], args := [d1, d2, d3, d4, d5, d6] }
  | _ => none }
def DecideVerdictWrongFalsely : Prop := decideVerdictRow.holds Tryz.pinned (OpenSpec.ofChange decideVerdictWrong)

/-- 'treatylaw12.DecideOrder': WHATEVER THE INPUT: true; the input reads as it did. -/
def decideOrderSpec : ChangeSpec := { name := "decideOrder", fn := fun _ => fun
  | [d1, d2] => { results := [.lit (.bool true)], args := [d1, d2] }
  | _ => none }
def decideOrderRow : OpenClaim := { program := "ytefjomofjejklaagreatdoor", sum := "fb20d53dca7c8e6552b92442645f2948ea22359edb5feb2d3250d290044529f5", func := "treaty/treatylaw12.DecideOrder", spec := "decideOrder", unfollowed := true, recurses := true, named := ["treaty/syntax.operators"], apart := false, laid := [("treaty/syntax.operators", laid_treaty_syntax_operators)] }
def DecideOrderSaid : Prop := decideOrderRow.holds Tryz.pinned (OpenSpec.ofChange decideOrderSpec)

/-- ITS FALSE NEIGHBOUR: 'it returns false'. Refute it at one input. -/
def decideOrderWrong : ChangeSpec := { name := "decideOrder", fn := fun _ => fun
  | [d1, d2] => { results := [.lit (.bool false)], args := [d1, d2] }
  | _ => none }
def DecideOrderWrongFalsely : Prop := decideOrderRow.holds Tryz.pinned (OpenSpec.ofChange decideOrderWrong)

/-- 'treatylaw12.DecideMore': WHATEVER THE INPUT: true; the input reads as it did. -/
def decideMoreSpec : ChangeSpec := { name := "decideMore", fn := fun _ => fun
  | [d1, d2, d3] => { results := [.lit (.bool true)], args := [d1, d2, d3] }
  | _ => none }
def decideMoreRow : OpenClaim := { program := "ytefjomofjejklaagreatdoor", sum := "fb20d53dca7c8e6552b92442645f2948ea22359edb5feb2d3250d290044529f5", func := "treaty/treatylaw12.DecideMore", spec := "decideMore", unfollowed := true, recurses := true, named := ["treaty/syntax.operators"], apart := false, laid := [("treaty/syntax.operators", laid_treaty_syntax_operators)] }
def DecideMoreSaid : Prop := decideMoreRow.holds Tryz.pinned (OpenSpec.ofChange decideMoreSpec)

/-- ITS FALSE NEIGHBOUR: 'it returns false'. Refute it at one input. -/
def decideMoreWrong : ChangeSpec := { name := "decideMore", fn := fun _ => fun
  | [d1, d2, d3] => { results := [.lit (.bool false)], args := [d1, d2, d3] }
  | _ => none }
def DecideMoreWrongFalsely : Prop := decideMoreRow.holds Tryz.pinned (OpenSpec.ofChange decideMoreWrong)

/-- 'treatylaw12.DecideTerms': WHATEVER THE INPUT: true; the input reads as it did. -/
def decideTermsSpec : ChangeSpec := { name := "decideTerms", fn := fun _ => fun
  | [d1, d2, d3] => { results := [.lit (.bool true)], args := [d1, d2, d3] }
  | _ => none }
def decideTermsRow : OpenClaim := { program := "ytefjomofjejklaagreatdoor", sum := "fb20d53dca7c8e6552b92442645f2948ea22359edb5feb2d3250d290044529f5", func := "treaty/treatylaw12.DecideTerms", spec := "decideTerms", unfollowed := true, recurses := true, named := ["treaty/syntax.operators"], apart := false, laid := [("treaty/syntax.operators", laid_treaty_syntax_operators)] }
def DecideTermsSaid : Prop := decideTermsRow.holds Tryz.pinned (OpenSpec.ofChange decideTermsSpec)

/-- ITS FALSE NEIGHBOUR: 'it returns false'. Refute it at one input. -/
def decideTermsWrong : ChangeSpec := { name := "decideTerms", fn := fun _ => fun
  | [d1, d2, d3] => { results := [.lit (.bool false)], args := [d1, d2, d3] }
  | _ => none }
def DecideTermsWrongFalsely : Prop := decideTermsRow.holds Tryz.pinned (OpenSpec.ofChange decideTermsWrong)

/-- 'treatylaw12.DecideWrites': WHATEVER THE INPUT: true; the input reads as it did. -/
def decideWritesSpec : ChangeSpec := { name := "decideWrites", fn := fun _ => fun
  | [d] => { results := [.lit (.bool true)], args := [d] }
  | _ => none }
def decideWritesRow : OpenClaim := { program := "ytefjomofjejklaagreatdoor", sum := "fb20d53dca7c8e6552b92442645f2948ea22359edb5feb2d3250d290044529f5", func := "treaty/treatylaw12.DecideWrites", spec := "decideWrites", unfollowed := true, recurses := true, named := ["treaty/syntax.operators"], apart := false, laid := [("treaty/syntax.operators", laid_treaty_syntax_operators)] }
def DecideWritesSaid : Prop := decideWritesRow.holds Tryz.pinned (OpenSpec.ofChange decideWritesSpec)

/-- ITS FALSE NEIGHBOUR: 'it returns false'. Refute it at one input. -/
def decideWritesWrong : ChangeSpec := { name := "decideWrites", fn := fun _ => fun
  | [d] => { results := [.lit (.bool false)], args := [d] }
  | _ => none }
def DecideWritesWrongFalsely : Prop := decideWritesRow.holds Tryz.pinned (OpenSpec.ofChange decideWritesWrong)

/-- 'treatylaw12.DecideExplain': WHATEVER THE INPUT: true; the input reads as it did. -/
def decideExplainSpec : ChangeSpec := { name := "decideExplain", fn := fun _ => fun
  | [d1, d2] => { results := [.lit (.bool true)], args := [d1, d2] }
  | _ => none }
def decideExplainRow : OpenClaim := { program := "ytefjomofjejklaagreatdoor", sum := "fb20d53dca7c8e6552b92442645f2948ea22359edb5feb2d3250d290044529f5", func := "treaty/treatylaw12.DecideExplain", spec := "decideExplain", unfollowed := true, recurses := true, named := ["treaty/syntax.operators"], apart := false, laid := [("treaty/syntax.operators", laid_treaty_syntax_operators)] }
def DecideExplainSaid : Prop := decideExplainRow.holds Tryz.pinned (OpenSpec.ofChange decideExplainSpec)

/-- ITS FALSE NEIGHBOUR: 'it returns false'. Refute it at one input. -/
def decideExplainWrong : ChangeSpec := { name := "decideExplain", fn := fun _ => fun
  | [d1, d2] => { results := [.lit (.bool false)], args := [d1, d2] }
  | _ => none }
def DecideExplainWrongFalsely : Prop := decideExplainRow.holds Tryz.pinned (OpenSpec.ofChange decideExplainWrong)

/-- 'treatylaw12.DecideAccepts': WHATEVER THE INPUT: true; the input reads as it did. -/
def decideAcceptsSpec : ChangeSpec := { name := "decideAccepts", fn := fun _ => fun
  | [d] => { results := [.lit (.bool true)], args := [d] }
  | _ => none }
def decideAcceptsRow : OpenClaim := { program := "ytefjomofjejklaagreatdoor", sum := "fb20d53dca7c8e6552b92442645f2948ea22359edb5feb2d3250d290044529f5", func := "treaty/treatylaw12.DecideAccepts", spec := "decideAccepts", unfollowed := true, recurses := true, named := ["treaty/syntax.operators"], apart := false, laid := [("treaty/syntax.operators", laid_treaty_syntax_operators)] }
def DecideAcceptsSaid : Prop := decideAcceptsRow.holds Tryz.pinned (OpenSpec.ofChange decideAcceptsSpec)

/-- ITS FALSE NEIGHBOUR: 'it returns false'. Refute it at one input. -/
def decideAcceptsWrong : ChangeSpec := { name := "decideAccepts", fn := fun _ => fun
  | [d] => { results := [.lit (.bool false)], args := [d] }
  | _ => none }
def DecideAcceptsWrongFalsely : Prop := decideAcceptsRow.holds Tryz.pinned (OpenSpec.ofChange decideAcceptsWrong)

/-- 'treatylaw12.DecideSound': WHATEVER THE INPUT: true; the input reads as it did. -/
def decideSoundSpec : ChangeSpec := { name := "decideSound", fn := fun _ => fun
  | [d1, d2, d3, d4] => { results := [.lit (.bool true)], args := [d1, d2, d3, d4] }
  | _ => none }
def decideSoundRow : OpenClaim := { program := "ytefjomofjejklaagreatdoor", sum := "fb20d53dca7c8e6552b92442645f2948ea22359edb5feb2d3250d290044529f5", func := "treaty/treatylaw12.DecideSound", spec := "decideSound", unfollowed := true, recurses := true, named := ["treaty/syntax.operators"], loops := true, apart := false, laid := [("treaty/syntax.operators", laid_treaty_syntax_operators)] }
def DecideSoundSaid : Prop := decideSoundRow.holds Tryz.pinned (OpenSpec.ofChange decideSoundSpec)

/-- ITS FALSE NEIGHBOUR: 'it returns false'. Refute it at one input. -/
def decideSoundWrong : ChangeSpec := { name := "decideSound", fn := fun _ => fun
  | [d1, d2, d3, d4] => { results := [.lit (.bool false)], args := [d1, d2, d3, d4] }
  | _ => none }
def DecideSoundWrongFalsely : Prop := decideSoundRow.holds Tryz.pinned (OpenSpec.ofChange decideSoundWrong)

/-- 'treatylaw12.DecideMissing': WHATEVER THE INPUT: true; the input reads as it did. -/
def decideMissingSpec : ChangeSpec := { name := "decideMissing", fn := fun _ => fun
  | [d1, d2] => { results := [.lit (.bool true)], args := [d1, d2] }
  | _ => none }
def decideMissingRow : OpenClaim := { program := "ytefjomofjejklaagreatdoor", sum := "fb20d53dca7c8e6552b92442645f2948ea22359edb5feb2d3250d290044529f5", func := "treaty/treatylaw12.DecideMissing", spec := "decideMissing", unfollowed := true, recurses := true, named := ["treaty/syntax.operators"], apart := false, laid := [("treaty/syntax.operators", laid_treaty_syntax_operators)] }
def DecideMissingSaid : Prop := decideMissingRow.holds Tryz.pinned (OpenSpec.ofChange decideMissingSpec)

/-- ITS FALSE NEIGHBOUR: 'it returns false'. Refute it at one input. -/
def decideMissingWrong : ChangeSpec := { name := "decideMissing", fn := fun _ => fun
  | [d1, d2] => { results := [.lit (.bool false)], args := [d1, d2] }
  | _ => none }
def DecideMissingWrongFalsely : Prop := decideMissingRow.holds Tryz.pinned (OpenSpec.ofChange decideMissingWrong)

/- THE SECOND FORM. 'bulk': how many values and letters a reading holds, each counted each time it is reached (what is shared counts as often as it is met; a slice's spare places count too). A statement '..UptoSaid' is the law's where the arguments, and the package variables that the reading takes, are together of bulk at most 1048576: NARROWER than '..Said'. Prove '..Said' where nothing that the law and all that it calls make is longer than what came in: it says more and counts as full. Else prove '..UptoSaid'. A law counts once. -/
mutual
def uptoBulk {H : Type} : DataW H → Nat
  | .lit (.string bytes) => bytes.length + 1
  | .lit _ => 1
  | .nil => 1
  | .ptr d => uptoBulk d + 1
  | .slice elems spare => uptoBulkAll elems + uptoBulkAll spare + 1
  | .agg parts => uptoBulkAll parts + 1
  | .iface _ d => uptoBulk d + 1
  | .map entries => uptoBulkEntries entries + 1
  | .held _ => 1
def uptoBulkAll {H : Type} : List (DataW H) → Nat
  | [] => 0
  | d :: r => uptoBulk d + uptoBulkAll r
def uptoBulkEntries {H : Type} : List (Lit × DataW H) → Nat
  | [] => 0
  | x :: r => uptoBulkEntry x + uptoBulkEntries r
def uptoBulkEntry {H : Type} : Lit × DataW H → Nat
  | (.string bytes, d) => bytes.length + uptoBulk d + 1
  | (_, d) => uptoBulk d + 1
 end
def uptoSmall : (H : Type) → List (DataW H) → Bool := fun _ ds => decide (uptoBulkAll ds ≤ 1048576)
def OpenSpec.upto (s : _root_.Go.ChangeSpec) : _root_.Go.OpenSpec := { _root_.Go.OpenSpec.ofChange s with cond := some uptoSmall }

/-- 'treatylaw12.DecideVerdict', WHERE WHAT IT READS IS OF BULK AT MOST 1048576: true; the input reads as it did. -/
def decideVerdictUptoRow : OpenClaim := { program := "ytefjomofjejklaagreatdoor", sum := "fb20d53dca7c8e6552b92442645f2948ea22359edb5feb2d3250d290044529f5", func := "treaty/treatylaw12.DecideVerdict", spec := "decideVerdict", unfollowed := true, recurses := true, named := ["treaty/syntax.operators"], loops := true, apart := false, laid := [("treaty/syntax.operators", laid_treaty_syntax_operators)], narrowed := true }
def DecideVerdictUptoSaid : Prop := decideVerdictUptoRow.holds Tryz.pinned (OpenSpec.upto decideVerdictSpec)

/-- 'treatylaw12.DecideOrder', WHERE WHAT IT READS IS OF BULK AT MOST 1048576: true; the input reads as it did. -/
def decideOrderUptoRow : OpenClaim := { program := "ytefjomofjejklaagreatdoor", sum := "fb20d53dca7c8e6552b92442645f2948ea22359edb5feb2d3250d290044529f5", func := "treaty/treatylaw12.DecideOrder", spec := "decideOrder", unfollowed := true, recurses := true, named := ["treaty/syntax.operators"], apart := false, laid := [("treaty/syntax.operators", laid_treaty_syntax_operators)], narrowed := true }
def DecideOrderUptoSaid : Prop := decideOrderUptoRow.holds Tryz.pinned (OpenSpec.upto decideOrderSpec)

/-- 'treatylaw12.DecideMore', WHERE WHAT IT READS IS OF BULK AT MOST 1048576: true; the input reads as it did. -/
def decideMoreUptoRow : OpenClaim := { program := "ytefjomofjejklaagreatdoor", sum := "fb20d53dca7c8e6552b92442645f2948ea22359edb5feb2d3250d290044529f5", func := "treaty/treatylaw12.DecideMore", spec := "decideMore", unfollowed := true, recurses := true, named := ["treaty/syntax.operators"], apart := false, laid := [("treaty/syntax.operators", laid_treaty_syntax_operators)], narrowed := true }
def DecideMoreUptoSaid : Prop := decideMoreUptoRow.holds Tryz.pinned (OpenSpec.upto decideMoreSpec)

/-- 'treatylaw12.DecideTerms', WHERE WHAT IT READS IS OF BULK AT MOST 1048576: true; the input reads as it did. -/
def decideTermsUptoRow : OpenClaim := { program := "ytefjomofjejklaagreatdoor", sum := "fb20d53dca7c8e6552b92442645f2948ea22359edb5feb2d3250d290044529f5", func := "treaty/treatylaw12.DecideTerms", spec := "decideTerms", unfollowed := true, recurses := true, named := ["treaty/syntax.operators"], apart := false, laid := [("treaty/syntax.operators", laid_treaty_syntax_operators)], narrowed := true }
def DecideTermsUptoSaid : Prop := decideTermsUptoRow.holds Tryz.pinned (OpenSpec.upto decideTermsSpec)

/-- 'treatylaw12.DecideWrites', WHERE WHAT IT READS IS OF BULK AT MOST 1048576: true; the input reads as it did. -/
def decideWritesUptoRow : OpenClaim := { program := "ytefjomofjejklaagreatdoor", sum := "fb20d53dca7c8e6552b92442645f2948ea22359edb5feb2d3250d290044529f5", func := "treaty/treatylaw12.DecideWrites", spec := "decideWrites", unfollowed := true, recurses := true, named := ["treaty/syntax.operators"], apart := false, laid := [("treaty/syntax.operators", laid_treaty_syntax_operators)], narrowed := true }
def DecideWritesUptoSaid : Prop := decideWritesUptoRow.holds Tryz.pinned (OpenSpec.upto decideWritesSpec)

/-- 'treatylaw12.DecideExplain', WHERE WHAT IT READS IS OF BULK AT MOST 1048576: true; the input reads as it did. -/
def decideExplainUptoRow : OpenClaim := { program := "ytefjomofjejklaagreatdoor", sum := "fb20d53dca7c8e6552b92442645f2948ea22359edb5feb2d3250d290044529f5", func := "treaty/treatylaw12.DecideExplain", spec := "decideExplain", unfollowed := true, recurses := true, named := ["treaty/syntax.operators"], apart := false, laid := [("treaty/syntax.operators", laid_treaty_syntax_operators)], narrowed := true }
def DecideExplainUptoSaid : Prop := decideExplainUptoRow.holds Tryz.pinned (OpenSpec.upto decideExplainSpec)

/-- 'treatylaw12.DecideAccepts', WHERE WHAT IT READS IS OF BULK AT MOST 1048576: true; the input reads as it did. -/
def decideAcceptsUptoRow : OpenClaim := { program := "ytefjomofjejklaagreatdoor", sum := "fb20d53dca7c8e6552b92442645f2948ea22359edb5feb2d3250d290044529f5", func := "treaty/treatylaw12.DecideAccepts", spec := "decideAccepts", unfollowed := true, recurses := true, named := ["treaty/syntax.operators"], apart := false, laid := [("treaty/syntax.operators", laid_treaty_syntax_operators)], narrowed := true }
def DecideAcceptsUptoSaid : Prop := decideAcceptsUptoRow.holds Tryz.pinned (OpenSpec.upto decideAcceptsSpec)

/-- 'treatylaw12.DecideSound', WHERE WHAT IT READS IS OF BULK AT MOST 1048576: true; the input reads as it did. -/
def decideSoundUptoRow : OpenClaim := { program := "ytefjomofjejklaagreatdoor", sum := "fb20d53dca7c8e6552b92442645f2948ea22359edb5feb2d3250d290044529f5", func := "treaty/treatylaw12.DecideSound", spec := "decideSound", unfollowed := true, recurses := true, named := ["treaty/syntax.operators"], loops := true, apart := false, laid := [("treaty/syntax.operators", laid_treaty_syntax_operators)], narrowed := true }
def DecideSoundUptoSaid : Prop := decideSoundUptoRow.holds Tryz.pinned (OpenSpec.upto decideSoundSpec)

/-- 'treatylaw12.DecideMissing', WHERE WHAT IT READS IS OF BULK AT MOST 1048576: true; the input reads as it did. -/
def decideMissingUptoRow : OpenClaim := { program := "ytefjomofjejklaagreatdoor", sum := "fb20d53dca7c8e6552b92442645f2948ea22359edb5feb2d3250d290044529f5", func := "treaty/treatylaw12.DecideMissing", spec := "decideMissing", unfollowed := true, recurses := true, named := ["treaty/syntax.operators"], apart := false, laid := [("treaty/syntax.operators", laid_treaty_syntax_operators)], narrowed := true }
def DecideMissingUptoSaid : Prop := decideMissingUptoRow.holds Tryz.pinned (OpenSpec.upto decideMissingSpec)

end Rows
end Go.Proofs.YtefjomofjejklaaGreatDoor
