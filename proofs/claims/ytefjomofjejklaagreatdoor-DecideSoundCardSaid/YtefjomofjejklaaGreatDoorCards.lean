/-
  DERIVED. GIVEN WITH THE SEED: THE CARDS: each row of YtefjomofjejklaaGreatDoorRows.lean that lists a variable, with what it lists TIED to the program's text (the seventh form; the later family's looks); each row that meets fmt, with fmt's text TOLD by the authors' own Lean function (tested against real Go, not proved from fmt's source: count such statements apart). THE CARD IS WHAT COUNTS. Prove the row's statement (the work); the ties are given (YtefjomofjejklaaGreatDoorTie.lean); close each card by the builder's one call (the guide's Derived/Test/ToyasCard.lean, 'card_holds'). Laid BY PROGRAM, IN A SANDBOX (cutbox-door.mjs). By AI agents, Wed Nov 11 2026. No macro, syntax, notation, axiom, sorry.
-/
import Derived.Test.YtefjomofjejklaaGreatDoorRows
import GoSem.ClaimSeven
namespace Go.Proofs.YtefjomofjejklaaGreatDoor
namespace Rows

/-- THE TIED CARD OF 'treatylaw12.DecideVerdict'. -/
def decideVerdictCard : Claim7 := { stood := { row := decideVerdictRow, standIns := [], harness := (true, "e24d03f438273586cd506242fe197263150846113a9372731377e5812dacbc25"), looks := true }, kinds := [], alts := [], laidByText := true, laidKinds := [.data], laidTests := true, laidLooks := .later }
def DecideVerdictCardSaid : Prop := Claim7.holds Tryz.pinned (.plain (OpenSpec.ofChange decideVerdictSpec)) decideVerdictCard

/-- THE TIED CARD OF 'treatylaw12.DecideOrder'. -/
def decideOrderCard : Claim7 := { stood := { row := decideOrderRow, standIns := [], harness := (true, "e24d03f438273586cd506242fe197263150846113a9372731377e5812dacbc25"), looks := true }, kinds := [], alts := [], laidByText := true, laidKinds := [.data], laidTests := true, laidLooks := .later }
def DecideOrderCardSaid : Prop := Claim7.holds Tryz.pinned (.plain (OpenSpec.ofChange decideOrderSpec)) decideOrderCard

/-- THE TIED CARD OF 'treatylaw12.DecideMore'. -/
def decideMoreCard : Claim7 := { stood := { row := decideMoreRow, standIns := [], harness := (true, "e24d03f438273586cd506242fe197263150846113a9372731377e5812dacbc25"), looks := true }, kinds := [], alts := [], laidByText := true, laidKinds := [.data], laidTests := true, laidLooks := .later }
def DecideMoreCardSaid : Prop := Claim7.holds Tryz.pinned (.plain (OpenSpec.ofChange decideMoreSpec)) decideMoreCard

/-- THE TIED CARD OF 'treatylaw12.DecideTerms'. -/
def decideTermsCard : Claim7 := { stood := { row := decideTermsRow, standIns := [], harness := (true, "e24d03f438273586cd506242fe197263150846113a9372731377e5812dacbc25"), looks := true }, kinds := [], alts := [], laidByText := true, laidKinds := [.data], laidTests := true, laidLooks := .later }
def DecideTermsCardSaid : Prop := Claim7.holds Tryz.pinned (.plain (OpenSpec.ofChange decideTermsSpec)) decideTermsCard

/-- THE TIED CARD OF 'treatylaw12.DecideWrites'. -/
def decideWritesCard : Claim7 := { stood := { row := decideWritesRow, standIns := [], harness := (true, "e24d03f438273586cd506242fe197263150846113a9372731377e5812dacbc25"), looks := true }, kinds := [], alts := [], laidByText := true, laidKinds := [.data], laidTests := true, laidLooks := .later }
def DecideWritesCardSaid : Prop := Claim7.holds Tryz.pinned (.plain (OpenSpec.ofChange decideWritesSpec)) decideWritesCard

/-- THE TIED CARD OF 'treatylaw12.DecideExplain'. -/
def decideExplainCard : Claim7 := { stood := { row := decideExplainRow, standIns := [], harness := (true, "e24d03f438273586cd506242fe197263150846113a9372731377e5812dacbc25"), looks := true }, kinds := [], alts := [], laidByText := true, laidKinds := [.data], laidTests := true, laidLooks := .later }
def DecideExplainCardSaid : Prop := Claim7.holds Tryz.pinned (.plain (OpenSpec.ofChange decideExplainSpec)) decideExplainCard

/-- THE TIED CARD OF 'treatylaw12.DecideAccepts'. -/
def decideAcceptsCard : Claim7 := { stood := { row := decideAcceptsRow, standIns := [], harness := (true, "e24d03f438273586cd506242fe197263150846113a9372731377e5812dacbc25"), looks := true }, kinds := [], alts := [], laidByText := true, laidKinds := [.data], laidTests := true, laidLooks := .later }
def DecideAcceptsCardSaid : Prop := Claim7.holds Tryz.pinned (.plain (OpenSpec.ofChange decideAcceptsSpec)) decideAcceptsCard

/-- THE TIED CARD OF 'treatylaw12.DecideSound'. -/
def decideSoundCard : Claim7 := { stood := { row := decideSoundRow, standIns := [], harness := (true, "e24d03f438273586cd506242fe197263150846113a9372731377e5812dacbc25"), looks := true }, kinds := [], alts := [], laidByText := true, laidKinds := [.data], laidTests := true, laidLooks := .later }
def DecideSoundCardSaid : Prop := Claim7.holds Tryz.pinned (.plain (OpenSpec.ofChange decideSoundSpec)) decideSoundCard

/-- THE TIED CARD OF 'treatylaw12.DecideMissing'. -/
def decideMissingCard : Claim7 := { stood := { row := decideMissingRow, standIns := [], harness := (true, "e24d03f438273586cd506242fe197263150846113a9372731377e5812dacbc25"), looks := true }, kinds := [], alts := [], laidByText := true, laidKinds := [.data], laidTests := true, laidLooks := .later }
def DecideMissingCardSaid : Prop := Claim7.holds Tryz.pinned (.plain (OpenSpec.ofChange decideMissingSpec)) decideMissingCard

/-- THE SECOND FORM's CARD OF 'treatylaw12.DecideVerdict'. -/
def decideVerdictUptoCard : Claim7 := { stood := { row := decideVerdictUptoRow, standIns := [], harness := (true, "e24d03f438273586cd506242fe197263150846113a9372731377e5812dacbc25"), looks := true }, kinds := [], alts := [], laidByText := true, laidKinds := [.data], laidTests := true, laidLooks := .later }
def DecideVerdictUptoCardSaid : Prop := Claim7.holds Tryz.pinned (.plain (OpenSpec.upto decideVerdictSpec)) decideVerdictUptoCard

/-- THE SECOND FORM's CARD OF 'treatylaw12.DecideOrder'. -/
def decideOrderUptoCard : Claim7 := { stood := { row := decideOrderUptoRow, standIns := [], harness := (true, "e24d03f438273586cd506242fe197263150846113a9372731377e5812dacbc25"), looks := true }, kinds := [], alts := [], laidByText := true, laidKinds := [.data], laidTests := true, laidLooks := .later }
def DecideOrderUptoCardSaid : Prop := Claim7.holds Tryz.pinned (.plain (OpenSpec.upto decideOrderSpec)) decideOrderUptoCard

/-- THE SECOND FORM's CARD OF 'treatylaw12.DecideMore'. -/
def decideMoreUptoCard : Claim7 := { stood := { row := decideMoreUptoRow, standIns := [], harness := (true, "e24d03f438273586cd506242fe197263150846113a9372731377e5812dacbc25"), looks := true }, kinds := [], alts := [], laidByText := true, laidKinds := [.data], laidTests := true, laidLooks := .later }
def DecideMoreUptoCardSaid : Prop := Claim7.holds Tryz.pinned (.plain (OpenSpec.upto decideMoreSpec)) decideMoreUptoCard

/-- THE SECOND FORM's CARD OF 'treatylaw12.DecideTerms'. -/
def decideTermsUptoCard : Claim7 := { stood := { row := decideTermsUptoRow, standIns := [], harness := (true, "e24d03f438273586cd506242fe197263150846113a9372731377e5812dacbc25"), looks := true }, kinds := [], alts := [], laidByText := true, laidKinds := [.data], laidTests := true, laidLooks := .later }
def DecideTermsUptoCardSaid : Prop := Claim7.holds Tryz.pinned (.plain (OpenSpec.upto decideTermsSpec)) decideTermsUptoCard

/-- THE SECOND FORM's CARD OF 'treatylaw12.DecideWrites'. -/
def decideWritesUptoCard : Claim7 := { stood := { row := decideWritesUptoRow, standIns := [], harness := (true, "e24d03f438273586cd506242fe197263150846113a9372731377e5812dacbc25"), looks := true }, kinds := [], alts := [], laidByText := true, laidKinds := [.data], laidTests := true, laidLooks := .later }
def DecideWritesUptoCardSaid : Prop := Claim7.holds Tryz.pinned (.plain (OpenSpec.upto decideWritesSpec)) decideWritesUptoCard

/-- THE SECOND FORM's CARD OF 'treatylaw12.DecideExplain'. -/
def decideExplainUptoCard : Claim7 := { stood := { row := decideExplainUptoRow, standIns := [], harness := (true, "e24d03f438273586cd506242fe197263150846113a9372731377e5812dacbc25"), looks := true }, kinds := [], alts := [], laidByText := true, laidKinds := [.data], laidTests := true, laidLooks := .later }
def DecideExplainUptoCardSaid : Prop := Claim7.holds Tryz.pinned (.plain (OpenSpec.upto decideExplainSpec)) decideExplainUptoCard

/-- THE SECOND FORM's CARD OF 'treatylaw12.DecideAccepts'. -/
def decideAcceptsUptoCard : Claim7 := { stood := { row := decideAcceptsUptoRow, standIns := [], harness := (true, "e24d03f438273586cd506242fe197263150846113a9372731377e5812dacbc25"), looks := true }, kinds := [], alts := [], laidByText := true, laidKinds := [.data], laidTests := true, laidLooks := .later }
def DecideAcceptsUptoCardSaid : Prop := Claim7.holds Tryz.pinned (.plain (OpenSpec.upto decideAcceptsSpec)) decideAcceptsUptoCard

/-- THE SECOND FORM's CARD OF 'treatylaw12.DecideSound'. -/
def decideSoundUptoCard : Claim7 := { stood := { row := decideSoundUptoRow, standIns := [], harness := (true, "e24d03f438273586cd506242fe197263150846113a9372731377e5812dacbc25"), looks := true }, kinds := [], alts := [], laidByText := true, laidKinds := [.data], laidTests := true, laidLooks := .later }
def DecideSoundUptoCardSaid : Prop := Claim7.holds Tryz.pinned (.plain (OpenSpec.upto decideSoundSpec)) decideSoundUptoCard

/-- THE SECOND FORM's CARD OF 'treatylaw12.DecideMissing'. -/
def decideMissingUptoCard : Claim7 := { stood := { row := decideMissingUptoRow, standIns := [], harness := (true, "e24d03f438273586cd506242fe197263150846113a9372731377e5812dacbc25"), looks := true }, kinds := [], alts := [], laidByText := true, laidKinds := [.data], laidTests := true, laidLooks := .later }
def DecideMissingUptoCardSaid : Prop := Claim7.holds Tryz.pinned (.plain (OpenSpec.upto decideMissingSpec)) decideMissingUptoCard
end Rows
end Go.Proofs.YtefjomofjejklaaGreatDoor
