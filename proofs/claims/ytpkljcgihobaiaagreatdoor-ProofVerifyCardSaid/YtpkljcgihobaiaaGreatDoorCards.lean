/-
  DERIVED. GIVEN WITH THE SEED: THE CARDS: each row of YtpkljcgihobaiaaGreatDoorRows.lean that lists a variable, with what it lists TIED to the program's text (the seventh form; the later family's looks); each row that meets fmt, with fmt's text TOLD by the authors' own Lean function (tested against real Go, not proved from fmt's source: count such statements apart). THE CARD IS WHAT COUNTS. Prove the row's statement (the work); the ties are given (YtpkljcgihobaiaaGreatDoorTie.lean); close each card by the builder's one call (the guide's Derived/Test/ToyasCard.lean, 'card_holds'). Laid BY PROGRAM, IN A SANDBOX (cutbox-door.mjs). By AI agents, Wed Nov 11 2026. No macro, syntax, notation, axiom, sorry.
-/
import Derived.Test.YtpkljcgihobaiaaGreatDoorRows
import GoSem.ClaimSeven
namespace Go.Proofs.YtpkljcgihobaiaaGreatDoor
namespace Rows

/-- THE TIED CARD OF 'treatylaw11.ProofProve'. -/
def proofProveCard : Claim7 := { stood := { row := proofProveRow, standIns := [], harness := (true, "c94e7b33c95d93de62f1d4f502a2ac7039ba2b3b03a9af2cf4c6ac4a52518132"), looks := true }, kinds := [], alts := [], laidByText := true, laidKinds := [.data], laidTests := true, laidLooks := .later }
def ProofProveCardSaid : Prop := Claim7.holds Tryz.pinned (.plain (OpenSpec.ofChange proofProveSpec)) proofProveCard

/-- THE TIED CARD OF 'treatylaw11.ProofAccepts'. -/
def proofAcceptsCard : Claim7 := { stood := { row := proofAcceptsRow, standIns := [], harness := (true, "c94e7b33c95d93de62f1d4f502a2ac7039ba2b3b03a9af2cf4c6ac4a52518132"), looks := true }, kinds := [], alts := [], laidByText := true, laidKinds := [.data], laidTests := true, laidLooks := .later }
def ProofAcceptsCardSaid : Prop := Claim7.holds Tryz.pinned (.plain (OpenSpec.ofChange proofAcceptsSpec)) proofAcceptsCard

/-- THE TIED CARD OF 'treatylaw11.ProofVerify'. -/
def proofVerifyCard : Claim7 := { stood := { row := proofVerifyRow, standIns := [], harness := (true, "c94e7b33c95d93de62f1d4f502a2ac7039ba2b3b03a9af2cf4c6ac4a52518132"), looks := true }, kinds := [], alts := [], laidByText := true, laidKinds := [.data], laidTests := true, laidLooks := .later }
def ProofVerifyCardSaid : Prop := Claim7.holds Tryz.pinned (.plain (OpenSpec.ofChange proofVerifySpec)) proofVerifyCard

/-- THE TIED CARD OF 'treatylaw11.ProofShort'. -/
def proofShortCard : Claim7 := { stood := { row := proofShortRow, standIns := [], harness := (true, "c94e7b33c95d93de62f1d4f502a2ac7039ba2b3b03a9af2cf4c6ac4a52518132"), looks := true }, kinds := [], alts := [], laidByText := true, laidKinds := [.data], laidTests := true, laidLooks := .later }
def ProofShortCardSaid : Prop := Claim7.holds Tryz.pinned (.plain (OpenSpec.ofChange proofShortSpec)) proofShortCard

/-- THE TIED CARD OF 'treatylaw11.ProofEval'. -/
def proofEvalCard : Claim7 := { stood := { row := proofEvalRow, standIns := [], harness := (true, "c94e7b33c95d93de62f1d4f502a2ac7039ba2b3b03a9af2cf4c6ac4a52518132"), looks := true }, kinds := [], alts := [], laidByText := true, laidKinds := [.data], laidTests := true, laidLooks := .later }
def ProofEvalCardSaid : Prop := Claim7.holds Tryz.pinned (.plain (OpenSpec.ofChange proofEvalSpec)) proofEvalCard

/-- THE TIED CARD OF 'treatylaw11.ProofDual'. -/
def proofDualCard : Claim7 := { stood := { row := proofDualRow, standIns := [], harness := (true, "c94e7b33c95d93de62f1d4f502a2ac7039ba2b3b03a9af2cf4c6ac4a52518132"), looks := true }, kinds := [], alts := [], laidByText := true, laidKinds := [.data], laidTests := true, laidLooks := .later }
def ProofDualCardSaid : Prop := Claim7.holds Tryz.pinned (.plain (OpenSpec.ofChange proofDualSpec)) proofDualCard

/-- THE TIED CARD OF 'treatylaw11.ProofSound'. -/
def proofSoundCard : Claim7 := { stood := { row := proofSoundRow, standIns := [], harness := (true, "c94e7b33c95d93de62f1d4f502a2ac7039ba2b3b03a9af2cf4c6ac4a52518132"), looks := true }, kinds := [], alts := [], laidByText := true, laidKinds := [.data], laidTests := true, laidLooks := .later }
def ProofSoundCardSaid : Prop := Claim7.holds Tryz.pinned (.plain (OpenSpec.ofChange proofSoundSpec)) proofSoundCard

/-- THE SECOND FORM's CARD OF 'treatylaw11.ProofProve'. -/
def proofProveUptoCard : Claim7 := { stood := { row := proofProveUptoRow, standIns := [], harness := (true, "c94e7b33c95d93de62f1d4f502a2ac7039ba2b3b03a9af2cf4c6ac4a52518132"), looks := true }, kinds := [], alts := [], laidByText := true, laidKinds := [.data], laidTests := true, laidLooks := .later }
def ProofProveUptoCardSaid : Prop := Claim7.holds Tryz.pinned (.plain (OpenSpec.upto proofProveSpec)) proofProveUptoCard

/-- THE SECOND FORM's CARD OF 'treatylaw11.ProofAccepts'. -/
def proofAcceptsUptoCard : Claim7 := { stood := { row := proofAcceptsUptoRow, standIns := [], harness := (true, "c94e7b33c95d93de62f1d4f502a2ac7039ba2b3b03a9af2cf4c6ac4a52518132"), looks := true }, kinds := [], alts := [], laidByText := true, laidKinds := [.data], laidTests := true, laidLooks := .later }
def ProofAcceptsUptoCardSaid : Prop := Claim7.holds Tryz.pinned (.plain (OpenSpec.upto proofAcceptsSpec)) proofAcceptsUptoCard

/-- THE SECOND FORM's CARD OF 'treatylaw11.ProofVerify'. -/
def proofVerifyUptoCard : Claim7 := { stood := { row := proofVerifyUptoRow, standIns := [], harness := (true, "c94e7b33c95d93de62f1d4f502a2ac7039ba2b3b03a9af2cf4c6ac4a52518132"), looks := true }, kinds := [], alts := [], laidByText := true, laidKinds := [.data], laidTests := true, laidLooks := .later }
def ProofVerifyUptoCardSaid : Prop := Claim7.holds Tryz.pinned (.plain (OpenSpec.upto proofVerifySpec)) proofVerifyUptoCard

/-- THE SECOND FORM's CARD OF 'treatylaw11.ProofShort'. -/
def proofShortUptoCard : Claim7 := { stood := { row := proofShortUptoRow, standIns := [], harness := (true, "c94e7b33c95d93de62f1d4f502a2ac7039ba2b3b03a9af2cf4c6ac4a52518132"), looks := true }, kinds := [], alts := [], laidByText := true, laidKinds := [.data], laidTests := true, laidLooks := .later }
def ProofShortUptoCardSaid : Prop := Claim7.holds Tryz.pinned (.plain (OpenSpec.upto proofShortSpec)) proofShortUptoCard

/-- THE SECOND FORM's CARD OF 'treatylaw11.ProofEval'. -/
def proofEvalUptoCard : Claim7 := { stood := { row := proofEvalUptoRow, standIns := [], harness := (true, "c94e7b33c95d93de62f1d4f502a2ac7039ba2b3b03a9af2cf4c6ac4a52518132"), looks := true }, kinds := [], alts := [], laidByText := true, laidKinds := [.data], laidTests := true, laidLooks := .later }
def ProofEvalUptoCardSaid : Prop := Claim7.holds Tryz.pinned (.plain (OpenSpec.upto proofEvalSpec)) proofEvalUptoCard

/-- THE SECOND FORM's CARD OF 'treatylaw11.ProofDual'. -/
def proofDualUptoCard : Claim7 := { stood := { row := proofDualUptoRow, standIns := [], harness := (true, "c94e7b33c95d93de62f1d4f502a2ac7039ba2b3b03a9af2cf4c6ac4a52518132"), looks := true }, kinds := [], alts := [], laidByText := true, laidKinds := [.data], laidTests := true, laidLooks := .later }
def ProofDualUptoCardSaid : Prop := Claim7.holds Tryz.pinned (.plain (OpenSpec.upto proofDualSpec)) proofDualUptoCard

/-- THE SECOND FORM's CARD OF 'treatylaw11.ProofSound'. -/
def proofSoundUptoCard : Claim7 := { stood := { row := proofSoundUptoRow, standIns := [], harness := (true, "c94e7b33c95d93de62f1d4f502a2ac7039ba2b3b03a9af2cf4c6ac4a52518132"), looks := true }, kinds := [], alts := [], laidByText := true, laidKinds := [.data], laidTests := true, laidLooks := .later }
def ProofSoundUptoCardSaid : Prop := Claim7.holds Tryz.pinned (.plain (OpenSpec.upto proofSoundSpec)) proofSoundUptoCard
end Rows
end Go.Proofs.YtpkljcgihobaiaaGreatDoor
