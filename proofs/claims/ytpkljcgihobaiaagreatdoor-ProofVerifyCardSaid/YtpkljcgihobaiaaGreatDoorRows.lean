/-
  NARROWER THAN 'FOR EVERY INPUT', by the rows' own cells (each row's printed sentence says how): ProofProve: loops, laid · ProofAccepts: laid · ProofVerify: loops, laid · ProofShort: laid · ProofEval: loops, laid · ProofDual: laid · ProofSound: loops, laid.
  DERIVED. THE GIVEN ROWS OF THIS SEAT. 7 by the template 'for every input the law returns true; each argument reads behind the call as it read before'; 0 by the template 'total and deterministic' (their statements: YtpkljcgihobaiaaGreatDoorTotals.lean).
  GIVEN WITH THE SEED: the statements are not yours to turn. If you find one false, say at which input.
  Laid BY PROGRAM, IN A SANDBOX (cutbox-rows.mjs): the forced cells as the released guide's own fill.sh prints them over the translation 1e42110563c37a97… (all of the seat's roots in one cut). By AI agents, Wed Nov 11 2026. No macro, syntax, notation, axiom, sorry.
-/
import Derived.Test.YtpkljcgihobaiaaGreatDoorChecked
import GoSem.Claim
import GoSem.ClaimJoined
import GoSem.ClaimMapViews
import Derived.JoinedTies
import Derived.KernelRfl
namespace Go.Proofs.YtpkljcgihobaiaaGreatDoor
/- THE CELL 'sum', in the pinned program and in every row, IS THE sha256 OF THE DUMP (.gsa) THAT YtpkljcgihobaiaaGreatDoorProg.lean LOADS. Nothing in Lean hashes anything: it is a label: what it is worth is what the hold of that sum in a sandbox is worth. -/
noncomputable def Tryz.pinned : Pinned := { name := "ytpkljcgihobaiaagreatdoor", sum := "1e42110563c37a973d2fd6aca2f7021ce9147f278a53dea42696f12cc75fe171", checked := Tryz.checked }
namespace Rows
def none {H : Type} : Left H := { results := [], args := [] }

/- WHAT THE LISTED PACKAGE-LEVEL VARIABLES READ AS WHEN THE CALL BEGINS. Each datum BY PROGRAM (the guide's laid-datum.mjs) off the statement by which the dump's own 'gosem.cut.vars' lays the variable. In a bare row this is a premise. The card (YtpkljcgihobaiaaGreatDoorCards.lean) ties it to the program's text. -/
def laid_treaty_syntax_operators {H : Type} : DataW H := .agg [.agg [.lit (.string []), .lit (.bool false), .lit (.int .i64 0), .lit (.int .i64 0), .lit (.int .i64 0)], .agg [.lit (.string [116, 114, 117, 101]), .lit (.bool false), .lit (.int .i64 0), .lit (.int .i64 0), .lit (.int .i64 0)], .agg [.lit (.string [102, 97, 108, 115, 101]), .lit (.bool false), .lit (.int .i64 0), .lit (.int .i64 0), .lit (.int .i64 0)], .agg [.lit (.string []), .lit (.bool true), .lit (.int .i64 0), .lit (.int .i64 0), .lit (.int .i64 0)], .agg [.lit (.string [105, 110]), .lit (.bool true), .lit (.int .i64 0), .lit (.int .i64 0), .lit (.int .i64 0)], .agg [.lit (.string [102, 114, 111, 109]), .lit (.bool true), .lit (.int .i64 0), .lit (.int .i64 0), .lit (.int .i64 0)], .agg [.lit (.string [110, 111, 116]), .lit (.bool false), .lit (.int .i64 1), .lit (.int .i64 1), .lit (.int .i64 3)], .agg [.lit (.string [97, 110, 100]), .lit (.bool false), .lit (.int .i64 2), .lit (.int .i64 300), .lit (.int .i64 2)], .agg [.lit (.string [111, 114]), .lit (.bool false), .lit (.int .i64 2), .lit (.int .i64 300), .lit (.int .i64 1)]]

/-- 'treatylaw11.ProofProve': WHATEVER THE INPUT: true; the input reads as it did. -/
def proofProveSpec : ChangeSpec := { name := "proofProve", fn := fun _ => fun
  | [d1, d2] => { results := [.lit (.bool true)], args := [d1, d2] }
  | _ => none }
def proofProveRow : OpenClaim := { program := "ytpkljcgihobaiaagreatdoor", sum := "1e42110563c37a973d2fd6aca2f7021ce9147f278a53dea42696f12cc75fe171", func := "treaty/treatylaw11.ProofProve", spec := "proofProve", unfollowed := true, recurses := true, named := ["treaty/syntax.operators"], loops := true, apart := false, laid := [("treaty/syntax.operators", laid_treaty_syntax_operators)] }
def ProofProveSaid : Prop := proofProveRow.holds Tryz.pinned (OpenSpec.ofChange proofProveSpec)

/-- ITS FALSE NEIGHBOUR: 'it returns false'. Refute it at one input. -/
def proofProveWrong : ChangeSpec := { name := "proofProve", fn := fun _ => fun
  | [d1, d2] => { results := [.lit (.bool false)], args := [d1, d2] }
  | _ => none }
def ProofProveWrongFalsely : Prop := proofProveRow.holds Tryz.pinned (OpenSpec.ofChange proofProveWrong)

/-- 'treatylaw11.ProofAccepts': WHATEVER THE INPUT: true; the input reads as it did. -/
def proofAcceptsSpec : ChangeSpec := { name := "proofAccepts", fn := fun _ => fun
  | [d] => { results := [.lit (.bool true)], args := [d] }
  | _ => none }
def proofAcceptsRow : OpenClaim := { program := "ytpkljcgihobaiaagreatdoor", sum := "1e42110563c37a973d2fd6aca2f7021ce9147f278a53dea42696f12cc75fe171", func := "treaty/treatylaw11.ProofAccepts", spec := "proofAccepts", unfollowed := true, recurses := true, named := ["treaty/syntax.operators"], apart := false, laid := [("treaty/syntax.operators", laid_treaty_syntax_operators)] }
def ProofAcceptsSaid : Prop := proofAcceptsRow.holds Tryz.pinned (OpenSpec.ofChange proofAcceptsSpec)

/-- ITS FALSE NEIGHBOUR: 'it returns false'. Refute it at one input. -/
def proofAcceptsWrong : ChangeSpec := { name := "proofAccepts", fn := fun _ => fun
  | [d] => { results := [.lit (.bool false)], args := [d] }
  | _ => none }
def ProofAcceptsWrongFalsely : Prop := proofAcceptsRow.holds Tryz.pinned (OpenSpec.ofChange proofAcceptsWrong)

/-- 'treatylaw11.ProofVerify': WHATEVER THE INPUT: true; the input reads as it did. -/
def proofVerifySpec : ChangeSpec := { name := "proofVerify", fn := fun _ => fun
  | [d1, d2, d3, d4] => { results := [.lit (.bool true)], args := [d1, d2, d3, d4] }
  | _ => none }
def proofVerifyRow : OpenClaim := { program := "ytpkljcgihobaiaagreatdoor", sum := "1e42110563c37a973d2fd6aca2f7021ce9147f278a53dea42696f12cc75fe171", func := "treaty/treatylaw11.ProofVerify", spec := "proofVerify", unfollowed := true, recurses := true, named := ["treaty/syntax.operators"], loops := true, apart := false, laid := [("treaty/syntax.operators", laid_treaty_syntax_operators)] }
def ProofVerifySaid : Prop := proofVerifyRow.holds Tryz.pinned (OpenSpec.ofChange proofVerifySpec)

/-- ITS FALSE NEIGHBOUR: 'it returns false'. Refute it at one input. -/
def proofVerifyWrong : ChangeSpec := { name := "proofVerify", fn := fun _ => fun
  | [d1, d2, d3, d4] => { results := [.lit (.bool false)], args := [d1, d2, d3, d4] }
  | _ => none }
def ProofVerifyWrongFalsely : Prop := proofVerifyRow.holds Tryz.pinned (OpenSpec.ofChange proofVerifyWrong)

/-- 'treatylaw11.ProofShort': WHATEVER THE INPUT: true; the input reads as it did. -/
def proofShortSpec : ChangeSpec := { name := "proofShort", fn := fun _ => fun
  | [d1, d2] => { results := [.lit (.bool true)], args := [d1, d2] }
  | _ => none }
def proofShortRow : OpenClaim := { program := "ytpkljcgihobaiaagreatdoor", sum := "1e42110563c37a973d2fd6aca2f7021ce9147f278a53dea42696f12cc75fe171", func := "treaty/treatylaw11.ProofShort", spec := "proofShort", unfollowed := true, recurses := true, named := ["treaty/syntax.operators"], apart := false, laid := [("treaty/syntax.operators", laid_treaty_syntax_operators)] }
def ProofShortSaid : Prop := proofShortRow.holds Tryz.pinned (OpenSpec.ofChange proofShortSpec)

/-- ITS FALSE NEIGHBOUR: 'it returns false'. Refute it at one input. -/
def proofShortWrong : ChangeSpec := { name := "proofShort", fn := fun _ => fun
  | [d1, d2] => { results := [.lit (.bool false)], args := [d1, d2] }
  | _ => none }
def ProofShortWrongFalsely : Prop := proofShortRow.holds Tryz.pinned (OpenSpec.ofChange proofShortWrong)

/-- 'treatylaw11.ProofEval': WHATEVER THE INPUT: true; the input reads as it did. -/
def proofEvalSpec : ChangeSpec := { name := "proofEval", fn := fun _ => fun
  | [d1, d2, d3, d4, d5, d6, d7] => { results := [.lit (.bool true)], args := [d1, d2, d3, d4, d5, d6, d7] }
  | _ => none }
def proofEvalRow : OpenClaim := { program := "ytpkljcgihobaiaagreatdoor", sum := "1e42110563c37a973d2fd6aca2f7021ce9147f278a53dea42696f12cc75fe171", func := "treaty/treatylaw11.ProofEval", spec := "proofEval", unfollowed := true, recurses := true, named := ["treaty/syntax.operators"], loops := true, apart := false, laid := [("treaty/syntax.operators", laid_treaty_syntax_operators)] }
def ProofEvalSaid : Prop := proofEvalRow.holds Tryz.pinned (OpenSpec.ofChange proofEvalSpec)

/-- ITS FALSE NEIGHBOUR: 'it returns false'. Refute it at one input. -/
def proofEvalWrong : ChangeSpec := { name := "proofEval", fn := fun _ => fun
  | [d1, d2, d3, d4, d5, d6, d7] => { results := [.lit (.bool false)], args := [d1, d2, d3, d4, d5, d6, d7] }
  | _ => none }
def ProofEvalWrongFalsely : Prop := proofEvalRow.holds Tryz.pinned (OpenSpec.ofChange proofEvalWrong)

/-- 'treatylaw11.ProofDual': WHATEVER THE INPUT: true; the input reads as it did. -/
def proofDualSpec : ChangeSpec := { name := "proofDual", fn := fun _ => fun
  | [d1, d2] => { results := [.lit (.bool true)], args := [d1, d2] }
  | _ => none }
def proofDualRow : OpenClaim := { program := "ytpkljcgihobaiaagreatdoor", sum := "1e42110563c37a973d2fd6aca2f7021ce9147f278a53dea42696f12cc75fe171", func := "treaty/treatylaw11.ProofDual", spec := "proofDual", unfollowed := true, recurses := true, named := ["treaty/syntax.operators"], apart := false, laid := [("treaty/syntax.operators", laid_treaty_syntax_operators)] }
def ProofDualSaid : Prop := proofDualRow.holds Tryz.pinned (OpenSpec.ofChange proofDualSpec)

/-- ITS FALSE NEIGHBOUR: 'it returns false'. Refute it at one input. -/
def proofDualWrong : ChangeSpec := { name := "proofDual", fn := fun _ => fun
  | [d1, d2] => { results := [.lit (.bool false)], args := [d1, d2] }
  | _ => none }
def ProofDualWrongFalsely : Prop := proofDualRow.holds Tryz.pinned (OpenSpec.ofChange proofDualWrong)

/-- 'treatylaw11.ProofSound': WHATEVER THE INPUT: true; the input reads as it did. -/
def proofSoundSpec : ChangeSpec := { name := "proofSound", fn := fun _ => fun
  | [d1, d2, d3, d4] => { results := [.lit (.bool true)], args := [d1, d2, d3, d4] }
  | _ => none }
def proofSoundRow : OpenClaim := { program := "ytpkljcgihobaiaagreatdoor", sum := "1e42110563c37a973d2fd6aca2f7021ce9147f278a53dea42696f12cc75fe171", func := "treaty/treatylaw11.ProofSound", spec := "proofSound", unfollowed := true, recurses := true, named := ["treaty/syntax.operators"], loops := true, apart := false, laid := [("treaty/syntax.operators", laid_treaty_syntax_operators)] }
def ProofSoundSaid : Prop := proofSoundRow.holds Tryz.pinned (OpenSpec.ofChange proofSoundSpec)

/-- ITS FALSE NEIGHBOUR: 'it returns false'. Refute it at one input. -/
def proofSoundWrong : ChangeSpec := { name := "proofSound", fn := fun _ => fun
  | [d1, d2, d3, d4] => { results := [.lit (.bool false)], args := [d1, d2, d3, d4] }
  | _ => none }
def ProofSoundWrongFalsely : Prop := proofSoundRow.holds Tryz.pinned (OpenSpec.ofChange proofSoundWrong)

/- THE SECOND FORM. 'bulk': how many values and letters a reading holds, each counted each time it is reached (what is shared counts as often as it is met; a slice's spare places count too). A statement '..UptoSaid' is the law's where the arguments, and the package variables that the reading takes, are together of bulk at most 1048576: NARROWER than '..Said'. Prove '..Said' where nothing that the law and all that it calls make is longer than what came in: it says more and counts as full. Else prove '..UptoSaid'. A law counts once. -/
mutual
def uptoBulk {H : Type} : DataW H → Nat
  | .lit (.string bytes) => bytes.length + 1
  | .lit _ => 1
  | .nil => 1
  | .ptr d => uptoBulk d + 1
  | .slice elems spare => uptoBulkAll elems + uptoBulkAll spare + 1
  | .agg parts => uptoBulkAll parts + 1
  | .iface _ d => uptoBulk d + 1
  | .map entries => uptoBulkEntries entries + 1
  | .held _ => 1
def uptoBulkAll {H : Type} : List (DataW H) → Nat
  | [] => 0
  | d :: r => uptoBulk d + uptoBulkAll r
def uptoBulkEntries {H : Type} : List (Lit × DataW H) → Nat
  | [] => 0
  | x :: r => uptoBulkEntry x + uptoBulkEntries r
def uptoBulkEntry {H : Type} : Lit × DataW H → Nat
  | (.string bytes, d) => bytes.length + uptoBulk d + 1
  | (_, d) => uptoBulk d + 1
 end
def uptoSmall : (H : Type) → List (DataW H) → Bool := fun _ ds => decide (uptoBulkAll ds ≤ 1048576)
def OpenSpec.upto (s : _root_.Go.ChangeSpec) : _root_.Go.OpenSpec := { _root_.Go.OpenSpec.ofChange s with cond := some uptoSmall }

/-- 'treatylaw11.ProofProve', WHERE WHAT IT READS IS OF BULK AT MOST 1048576: true; the input reads as it did. -/
def proofProveUptoRow : OpenClaim := { program := "ytpkljcgihobaiaagreatdoor", sum := "1e42110563c37a973d2fd6aca2f7021ce9147f278a53dea42696f12cc75fe171", func := "treaty/treatylaw11.ProofProve", spec := "proofProve", unfollowed := true, recurses := true, named := ["treaty/syntax.operators"], loops := true, apart := false, laid := [("treaty/syntax.operators", laid_treaty_syntax_operators)], narrowed := true }
def ProofProveUptoSaid : Prop := proofProveUptoRow.holds Tryz.pinned (OpenSpec.upto proofProveSpec)

/-- 'treatylaw11.ProofAccepts', WHERE WHAT IT READS IS OF BULK AT MOST 1048576: true; the input reads as it did. -/
def proofAcceptsUptoRow : OpenClaim := { program := "ytpkljcgihobaiaagreatdoor", sum := "1e42110563c37a973d2fd6aca2f7021ce9147f278a53dea42696f12cc75fe171", func := "treaty/treatylaw11.ProofAccepts", spec := "proofAccepts", unfollowed := true, recurses := true, named := ["treaty/syntax.operators"], apart := false, laid := [("treaty/syntax.operators", laid_treaty_syntax_operators)], narrowed := true }
def ProofAcceptsUptoSaid : Prop := proofAcceptsUptoRow.holds Tryz.pinned (OpenSpec.upto proofAcceptsSpec)

/-- 'treatylaw11.ProofVerify', WHERE WHAT IT READS IS OF BULK AT MOST 1048576: true; the input reads as it did. -/
def proofVerifyUptoRow : OpenClaim := { program := "ytpkljcgihobaiaagreatdoor", sum := "1e42110563c37a973d2fd6aca2f7021ce9147f278a53dea42696f12cc75fe171", func := "treaty/treatylaw11.ProofVerify", spec := "proofVerify", unfollowed := true, recurses := true, named := ["treaty/syntax.operators"], loops := true, apart := false, laid := [("treaty/syntax.operators", laid_treaty_syntax_operators)], narrowed := true }
def ProofVerifyUptoSaid : Prop := proofVerifyUptoRow.holds Tryz.pinned (OpenSpec.upto proofVerifySpec)

/-- 'treatylaw11.ProofShort', WHERE WHAT IT READS IS OF BULK AT MOST 1048576: true; the input reads as it did. -/
def proofShortUptoRow : OpenClaim := { program := "ytpkljcgihobaiaagreatdoor", sum := "1e42110563c37a973d2fd6aca2f7021ce9147f278a53dea42696f12cc75fe171", func := "treaty/treatylaw11.ProofShort", spec := "proofShort", unfollowed := true, recurses := true, named := ["treaty/syntax.operators"], apart := false, laid := [("treaty/syntax.operators", laid_treaty_syntax_operators)], narrowed := true }
def ProofShortUptoSaid : Prop := proofShortUptoRow.holds Tryz.pinned (OpenSpec.upto proofShortSpec)

/-- 'treatylaw11.ProofEval', WHERE WHAT IT READS IS OF BULK AT MOST 1048576: true; the input reads as it did. -/
def proofEvalUptoRow : OpenClaim := { program := "ytpkljcgihobaiaagreatdoor", sum := "1e42110563c37a973d2fd6aca2f7021ce9147f278a53dea42696f12cc75fe171", func := "treaty/treatylaw11.ProofEval", spec := "proofEval", unfollowed := true, recurses := true, named := ["treaty/syntax.operators"], loops := true, apart := false, laid := [("treaty/syntax.operators", laid_treaty_syntax_operators)], narrowed := true }
def ProofEvalUptoSaid : Prop := proofEvalUptoRow.holds Tryz.pinned (OpenSpec.upto proofEvalSpec)

/-- 'treatylaw11.ProofDual', WHERE WHAT IT READS IS OF BULK AT MOST 1048576: true; the input reads as it did. -/
def proofDualUptoRow : OpenClaim := { program := "ytpkljcgihobaiaagreatdoor", sum := "1e42110563c37a973d2fd6aca2f7021ce9147f278a53dea42696f12cc75fe171", func := "treaty/treatylaw11.ProofDual", spec := "proofDual", unfollowed := true, recurses := true, named := ["treaty/syntax.operators"], apart := false, laid := [("treaty/syntax.operators", laid_treaty_syntax_operators)], narrowed := true }
def ProofDualUptoSaid : Prop := proofDualUptoRow.holds Tryz.pinned (OpenSpec.upto proofDualSpec)

/-- 'treatylaw11.ProofSound', WHERE WHAT IT READS IS OF BULK AT MOST 1048576: true; the input reads as it did. -/
def proofSoundUptoRow : OpenClaim := { program := "ytpkljcgihobaiaagreatdoor", sum := "1e42110563c37a973d2fd6aca2f7021ce9147f278a53dea42696f12cc75fe171", func := "treaty/treatylaw11.ProofSound", spec := "proofSound", unfollowed := true, recurses := true, named := ["treaty/syntax.operators"], loops := true, apart := false, laid := [("treaty/syntax.operators", laid_treaty_syntax_operators)], narrowed := true }
def ProofSoundUptoSaid : Prop := proofSoundUptoRow.holds Tryz.pinned (OpenSpec.upto proofSoundSpec)

end Rows
end Go.Proofs.YtpkljcgihobaiaaGreatDoor
