/-
  DERIVED. GIVEN WITH THE SEED: THE CARDS: each row of YtfjlglefodndjaaGreatDoorRows.lean that lists a variable, with what it lists TIED to the program's text (the seventh form; the later family's looks); each row that meets fmt, with fmt's text TOLD by the authors' own Lean function (tested against real Go, not proved from fmt's source: count such statements apart). THE CARD IS WHAT COUNTS. Prove the row's statement (the work); the ties are given (YtfjlglefodndjaaGreatDoorTie.lean); close each card by the builder's one call (the guide's Derived/Test/ToyasCard.lean, 'card_holds'). Laid BY PROGRAM, IN A SANDBOX (cutbox-door.mjs). By AI agents, Wed Nov 11 2026. No macro, syntax, notation, axiom, sorry.
-/
import Derived.Test.YtfjlglefodndjaaGreatDoorRows
import GoSem.ClaimSeven
namespace Go.Proofs.YtfjlglefodndjaaGreatDoor
namespace Rows

/-- THE TIED CARD OF 'treatylaw10.CheckExpr'. -/
def checkExprCard : Claim7 := { stood := { row := checkExprRow, standIns := [], harness := (true, "0da118e5eeadd05f7c7bedc546138cb9c980a45dcd8b9a7fc289a0e6d0c401e5"), looks := true }, kinds := [], alts := [], laidByText := true, laidKinds := [.data], laidTests := true, laidLooks := .later }
def CheckExprCardSaid : Prop := Claim7.holds Tryz.pinned (.plain (OpenSpec.ofChange checkExprSpec)) checkExprCard

/-- THE TIED CARD OF 'treatylaw10.CheckClauses'. -/
def checkClausesCard : Claim7 := { stood := { row := checkClausesRow, standIns := [], harness := (true, "0da118e5eeadd05f7c7bedc546138cb9c980a45dcd8b9a7fc289a0e6d0c401e5"), looks := true }, kinds := [], alts := [], laidByText := true, laidKinds := [.data], laidTests := true, laidLooks := .later }
def CheckClausesCardSaid : Prop := Claim7.holds Tryz.pinned (.plain (OpenSpec.ofChange checkClausesSpec)) checkClausesCard

/-- THE SECOND FORM's CARD OF 'treatylaw10.CheckExpr'. -/
def checkExprUptoCard : Claim7 := { stood := { row := checkExprUptoRow, standIns := [], harness := (true, "0da118e5eeadd05f7c7bedc546138cb9c980a45dcd8b9a7fc289a0e6d0c401e5"), looks := true }, kinds := [], alts := [], laidByText := true, laidKinds := [.data], laidTests := true, laidLooks := .later }
def CheckExprUptoCardSaid : Prop := Claim7.holds Tryz.pinned (.plain (OpenSpec.upto checkExprSpec)) checkExprUptoCard

/-- THE SECOND FORM's CARD OF 'treatylaw10.CheckClauses'. -/
def checkClausesUptoCard : Claim7 := { stood := { row := checkClausesUptoRow, standIns := [], harness := (true, "0da118e5eeadd05f7c7bedc546138cb9c980a45dcd8b9a7fc289a0e6d0c401e5"), looks := true }, kinds := [], alts := [], laidByText := true, laidKinds := [.data], laidTests := true, laidLooks := .later }
def CheckClausesUptoCardSaid : Prop := Claim7.holds Tryz.pinned (.plain (OpenSpec.upto checkClausesSpec)) checkClausesUptoCard
end Rows
end Go.Proofs.YtfjlglefodndjaaGreatDoor
