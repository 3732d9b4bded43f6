/-
  DERIVED. GIVEN WITH THE SEED: THE CARDS: each row of YtaepiiediblleaaDoorRows.lean that lists a variable, with what it lists TIED to the program's text (the seventh form; the later family's looks); each row that meets fmt, with fmt's text TOLD by the authors' own Lean function (tested against real Go, not proved from fmt's source: count such statements apart). THE CARD IS WHAT COUNTS. Prove the row's statement (the work); the ties are given (YtaepiiediblleaaDoorTie.lean); close each card by the builder's one call (the guide's Derived/Test/ToyasCard.lean, 'card_holds'). Laid BY PROGRAM, IN A SANDBOX (cutbox-door.mjs). By AI agents, Wed Nov 11 2026. No macro, syntax, notation, axiom, sorry.
-/
import Derived.Test.YtaepiiediblleaaDoorRows
import GoSem.ClaimSeven
namespace Go.Proofs.YtaepiiediblleaaDoor
namespace Rows

/-- THE TIED CARD OF 'treatylaw07.SyntaxParentheses'. -/
def syntaxParenthesesCard : Claim7 := { stood := { row := syntaxParenthesesRow, standIns := [], harness := (true, "a180f301cb65cba76608d6daf70cfcbf6cf0db390bea170a0784bb9b82ed3006"), looks := false }, kinds := [], alts := [], laidByText := true, laidKinds := [.data, .data], laidTests := true, laidLooks := .later }
def SyntaxParenthesesCardSaid : Prop := Claim7.holds Tryd.pinned (.plain (OpenSpec.ofChange syntaxParenthesesSpec)) syntaxParenthesesCard

/-- THE TIED CARD OF 'treatylaw07.SyntaxBinds'. -/
def syntaxBindsCard : Claim7 := { stood := { row := syntaxBindsRow, standIns := [], harness := (true, "a180f301cb65cba76608d6daf70cfcbf6cf0db390bea170a0784bb9b82ed3006"), looks := false }, kinds := [], alts := [], laidByText := true, laidKinds := [.data, .data], laidTests := true, laidLooks := .later }
def SyntaxBindsCardSaid : Prop := Claim7.holds Tryd.pinned (.plain (OpenSpec.ofChange syntaxBindsSpec)) syntaxBindsCard

/-- THE TIED CARD OF 'treatylaw07.SyntaxDeep'. -/
def syntaxDeepCard : Claim7 := { stood := { row := syntaxDeepRow, standIns := [], harness := (true, "a180f301cb65cba76608d6daf70cfcbf6cf0db390bea170a0784bb9b82ed3006"), looks := false }, kinds := [], alts := [], laidByText := true, laidKinds := [.data, .data], laidTests := true, laidLooks := .later }
def SyntaxDeepCardSaid : Prop := Claim7.holds Tryd.pinned (.plain (OpenSpec.ofChange syntaxDeepSpec)) syntaxDeepCard

/-- THE TIED CARD OF 'treatylaw07.SyntaxValid'. -/
def syntaxValidCard : Claim7 := { stood := { row := syntaxValidRow, standIns := [], harness := (true, "a180f301cb65cba76608d6daf70cfcbf6cf0db390bea170a0784bb9b82ed3006"), looks := false }, kinds := [], alts := [], laidByText := true, laidKinds := [.data, .data], laidTests := true, laidLooks := .later }
def SyntaxValidCardSaid : Prop := Claim7.holds Tryd.pinned (.plain (OpenSpec.ofChange syntaxValidSpec)) syntaxValidCard

/-- THE TIED CARD OF 'treatylaw07.SyntaxNames'. -/
def syntaxNamesCard : Claim7 := { stood := { row := syntaxNamesRow, standIns := [], harness := (true, "a180f301cb65cba76608d6daf70cfcbf6cf0db390bea170a0784bb9b82ed3006"), looks := false }, kinds := [], alts := [], laidByText := true, laidKinds := [.data, .data], laidTests := true, laidLooks := .later }
def SyntaxNamesCardSaid : Prop := Claim7.holds Tryd.pinned (.plain (OpenSpec.ofChange syntaxNamesSpec)) syntaxNamesCard

/-- THE SECOND FORM's CARD OF 'treatylaw07.SyntaxParentheses'. -/
def syntaxParenthesesUptoCard : Claim7 := { stood := { row := syntaxParenthesesUptoRow, standIns := [], harness := (true, "a180f301cb65cba76608d6daf70cfcbf6cf0db390bea170a0784bb9b82ed3006"), looks := false }, kinds := [], alts := [], laidByText := true, laidKinds := [.data, .data], laidTests := true, laidLooks := .later }
def SyntaxParenthesesUptoCardSaid : Prop := Claim7.holds Tryd.pinned (.plain (OpenSpec.upto syntaxParenthesesSpec)) syntaxParenthesesUptoCard

/-- THE SECOND FORM's CARD OF 'treatylaw07.SyntaxBinds'. -/
def syntaxBindsUptoCard : Claim7 := { stood := { row := syntaxBindsUptoRow, standIns := [], harness := (true, "a180f301cb65cba76608d6daf70cfcbf6cf0db390bea170a0784bb9b82ed3006"), looks := false }, kinds := [], alts := [], laidByText := true, laidKinds := [.data, .data], laidTests := true, laidLooks := .later }
def SyntaxBindsUptoCardSaid : Prop := Claim7.holds Tryd.pinned (.plain (OpenSpec.upto syntaxBindsSpec)) syntaxBindsUptoCard

/-- THE SECOND FORM's CARD OF 'treatylaw07.SyntaxDeep'. -/
def syntaxDeepUptoCard : Claim7 := { stood := { row := syntaxDeepUptoRow, standIns := [], harness := (true, "a180f301cb65cba76608d6daf70cfcbf6cf0db390bea170a0784bb9b82ed3006"), looks := false }, kinds := [], alts := [], laidByText := true, laidKinds := [.data, .data], laidTests := true, laidLooks := .later }
def SyntaxDeepUptoCardSaid : Prop := Claim7.holds Tryd.pinned (.plain (OpenSpec.upto syntaxDeepSpec)) syntaxDeepUptoCard

/-- THE SECOND FORM's CARD OF 'treatylaw07.SyntaxValid'. -/
def syntaxValidUptoCard : Claim7 := { stood := { row := syntaxValidUptoRow, standIns := [], harness := (true, "a180f301cb65cba76608d6daf70cfcbf6cf0db390bea170a0784bb9b82ed3006"), looks := false }, kinds := [], alts := [], laidByText := true, laidKinds := [.data, .data], laidTests := true, laidLooks := .later }
def SyntaxValidUptoCardSaid : Prop := Claim7.holds Tryd.pinned (.plain (OpenSpec.upto syntaxValidSpec)) syntaxValidUptoCard

/-- THE SECOND FORM's CARD OF 'treatylaw07.SyntaxNames'. -/
def syntaxNamesUptoCard : Claim7 := { stood := { row := syntaxNamesUptoRow, standIns := [], harness := (true, "a180f301cb65cba76608d6daf70cfcbf6cf0db390bea170a0784bb9b82ed3006"), looks := false }, kinds := [], alts := [], laidByText := true, laidKinds := [.data, .data], laidTests := true, laidLooks := .later }
def SyntaxNamesUptoCardSaid : Prop := Claim7.holds Tryd.pinned (.plain (OpenSpec.upto syntaxNamesSpec)) syntaxNamesUptoCard
end Rows
end Go.Proofs.YtaepiiediblleaaDoor
