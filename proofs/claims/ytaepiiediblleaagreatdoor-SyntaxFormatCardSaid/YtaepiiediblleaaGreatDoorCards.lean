/-
  DERIVED. GIVEN WITH THE SEED: THE CARDS: each row of YtaepiiediblleaaGreatDoorRows.lean that lists a variable, with what it lists TIED to the program's text (the seventh form; the later family's looks); each row that meets fmt, with fmt's text TOLD by the authors' own Lean function (tested against real Go, not proved from fmt's source: count such statements apart). THE CARD IS WHAT COUNTS. Prove the row's statement (the work); the ties are given (YtaepiiediblleaaGreatDoorTie.lean); close each card by the builder's one call (the guide's Derived/Test/ToyasCard.lean, 'card_holds'). Laid BY PROGRAM, IN A SANDBOX (cutbox-door.mjs). By AI agents, Wed Nov 11 2026. No macro, syntax, notation, axiom, sorry.
-/
import Derived.Test.YtaepiiediblleaaGreatDoorRows
import GoSem.ClaimSeven
namespace Go.Proofs.YtaepiiediblleaaGreatDoor
namespace Rows

/-- THE TIED CARD OF 'treatylaw07.SyntaxTokens'. -/
def syntaxTokensCard : Claim7 := { stood := { row := syntaxTokensRow, standIns := [], harness := (true, "26cc0ef5610441878c36100bb35f8b44a6454ec54a9931bc1acbe9e990dff4bd"), looks := false }, kinds := [], alts := [], laidByText := true, laidKinds := [.data, .data], laidTests := true, laidLooks := .later }
def SyntaxTokensCardSaid : Prop := Claim7.holds Tryz.pinned (.plain (OpenSpec.ofChange syntaxTokensSpec)) syntaxTokensCard

/-- THE TIED CARD OF 'treatylaw07.SyntaxFormat'. -/
def syntaxFormatCard : Claim7 := { stood := { row := syntaxFormatRow, standIns := [], harness := (true, "26cc0ef5610441878c36100bb35f8b44a6454ec54a9931bc1acbe9e990dff4bd"), looks := false }, kinds := [], alts := [], laidByText := true, laidKinds := [.data, .data, .data, .data, .data], laidTests := true, laidLooks := .later }
def SyntaxFormatCardSaid : Prop := Claim7.holds Tryz.pinned (.plain (OpenSpec.ofChange syntaxFormatSpec)) syntaxFormatCard

/-- THE TIED CARD OF 'treatylaw07.SyntaxBack'. -/
def syntaxBackCard : Claim7 := { stood := { row := syntaxBackRow, standIns := [], harness := (true, "26cc0ef5610441878c36100bb35f8b44a6454ec54a9931bc1acbe9e990dff4bd"), looks := false }, kinds := [], alts := [], laidByText := true, laidKinds := [.data, .data, .data, .data, .data], laidTests := true, laidLooks := .later }
def SyntaxBackCardSaid : Prop := Claim7.holds Tryz.pinned (.plain (OpenSpec.ofChange syntaxBackSpec)) syntaxBackCard

/-- THE SECOND FORM's CARD OF 'treatylaw07.SyntaxTokens'. -/
def syntaxTokensUptoCard : Claim7 := { stood := { row := syntaxTokensUptoRow, standIns := [], harness := (true, "26cc0ef5610441878c36100bb35f8b44a6454ec54a9931bc1acbe9e990dff4bd"), looks := false }, kinds := [], alts := [], laidByText := true, laidKinds := [.data, .data], laidTests := true, laidLooks := .later }
def SyntaxTokensUptoCardSaid : Prop := Claim7.holds Tryz.pinned (.plain (OpenSpec.upto syntaxTokensSpec)) syntaxTokensUptoCard

/-- THE SECOND FORM's CARD OF 'treatylaw07.SyntaxFormat'. -/
def syntaxFormatUptoCard : Claim7 := { stood := { row := syntaxFormatUptoRow, standIns := [], harness := (true, "26cc0ef5610441878c36100bb35f8b44a6454ec54a9931bc1acbe9e990dff4bd"), looks := false }, kinds := [], alts := [], laidByText := true, laidKinds := [.data, .data, .data, .data, .data], laidTests := true, laidLooks := .later }
def SyntaxFormatUptoCardSaid : Prop := Claim7.holds Tryz.pinned (.plain (OpenSpec.upto syntaxFormatSpec)) syntaxFormatUptoCard

/-- THE SECOND FORM's CARD OF 'treatylaw07.SyntaxBack'. -/
def syntaxBackUptoCard : Claim7 := { stood := { row := syntaxBackUptoRow, standIns := [], harness := (true, "26cc0ef5610441878c36100bb35f8b44a6454ec54a9931bc1acbe9e990dff4bd"), looks := false }, kinds := [], alts := [], laidByText := true, laidKinds := [.data, .data, .data, .data, .data], laidTests := true, laidLooks := .later }
def SyntaxBackUptoCardSaid : Prop := Claim7.holds Tryz.pinned (.plain (OpenSpec.upto syntaxBackSpec)) syntaxBackUptoCard
end Rows
end Go.Proofs.YtaepiiediblleaaGreatDoor
