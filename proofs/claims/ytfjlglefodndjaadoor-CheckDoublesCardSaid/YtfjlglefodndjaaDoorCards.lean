/-
  DERIVED. GIVEN WITH THE SEED: THE CARDS: each row of YtfjlglefodndjaaDoorRows.lean that lists a variable, with what it lists TIED to the program's text (the seventh form; the later family's looks); each row that meets fmt, with fmt's text TOLD by the authors' own Lean function (tested against real Go, not proved from fmt's source: count such statements apart). THE CARD IS WHAT COUNTS. Prove the row's statement (the work); the ties are given (YtfjlglefodndjaaDoorTie.lean); close each card by the builder's one call (the guide's Derived/Test/ToyasCard.lean, 'card_holds'). Laid BY PROGRAM, IN A SANDBOX (cutbox-door.mjs). By AI agents, Wed Nov 11 2026. No macro, syntax, notation, axiom, sorry.
-/
import Derived.Test.YtfjlglefodndjaaDoorRows
import GoSem.ClaimSeven
namespace Go.Proofs.YtfjlglefodndjaaDoor
namespace Rows

/-- THE TIED CARD OF 'treatylaw10.CheckDoubles'. -/
def checkDoublesCard : Claim7 := { stood := { row := checkDoublesRow, standIns := [], harness := (true, "7ba2be02c58d73170248e3df7347a4e51cb5886be9776afa02139e5f372b4120"), looks := true }, kinds := [], alts := [], laidByText := true, laidKinds := [.data], laidTests := true, laidLooks := .later }
def CheckDoublesCardSaid : Prop := Claim7.holds Tryd.pinned (.plain (OpenSpec.ofChange checkDoublesSpec)) checkDoublesCard

/-- THE SECOND FORM's CARD OF 'treatylaw10.CheckDoubles'. -/
def checkDoublesUptoCard : Claim7 := { stood := { row := checkDoublesUptoRow, standIns := [], harness := (true, "7ba2be02c58d73170248e3df7347a4e51cb5886be9776afa02139e5f372b4120"), looks := true }, kinds := [], alts := [], laidByText := true, laidKinds := [.data], laidTests := true, laidLooks := .later }
def CheckDoublesUptoCardSaid : Prop := Claim7.holds Tryd.pinned (.plain (OpenSpec.upto checkDoublesSpec)) checkDoublesUptoCard
end Rows
end Go.Proofs.YtfjlglefodndjaaDoor
