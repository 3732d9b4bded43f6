/-
  No cell of these rows narrows 'for every input' (looked for: loops, veiled, ifaces, maps, wideKeys, modest, calm, conditions, laid).
  DERIVED. THE GIVEN ROWS OF THIS SEAT. 3 by the template 'for every input the law returns true; each argument reads behind the call as it read before'; 0 by the template 'total and deterministic' (their statements: YtpkljcgihobaiaaGreatTotals.lean).
  GIVEN WITH THE SEED: the statements are not yours to turn. If you find one false, say at which input.
  Laid BY PROGRAM, IN A SANDBOX (cutbox-rows.mjs): the forced cells as the released guide's own fill.sh prints them over the translation 1df5241abfaf0e39… (all of the seat's roots in one cut). By AI agents, Wed Nov 11 2026. No macro, syntax, notation, axiom, sorry.
-/
import Derived.Test.YtpkljcgihobaiaaGreatChecked
import GoSem.Claim
import GoSem.ClaimJoined
import GoSem.ClaimMapViews
import Derived.JoinedTies
import Derived.KernelRfl
namespace Go.Proofs.YtpkljcgihobaiaaGreat
/- THE CELL 'sum', in the pinned program and in every row, IS THE sha256 OF THE DUMP (.gsa) THAT YtpkljcgihobaiaaGreatProg.lean LOADS. Nothing in Lean hashes anything: it is a label: what it is worth is what the hold of that sum in a sandbox is worth. -/
noncomputable def Tryz.pinned : Pinned := { name := "ytpkljcgihobaiaagreat", sum := "1df5241abfaf0e390ae1e9bf5033fe164f423ff49628589afe3e8c3aa20927c6", checked := Tryz.checked }
namespace Rows
def none {H : Type} : Left H := { results := [], args := [] }

/-- 'treatylaw18.ClaimValid': WHATEVER THE INPUT: true; the input reads as it did. -/
def claimValidSpec : ChangeSpec := { name := "claimValid", fn := fun _ => fun
  | [d1, d2, d3, d4, d5] => { results := [.lit (.bool true)], args := [d1, d2, d3, d4, d5] }
  | _ => none }
def claimValidRow : OpenClaim := { program := "ytpkljcgihobaiaagreat", sum := "1df5241abfaf0e390ae1e9bf5033fe164f423ff49628589afe3e8c3aa20927c6", func := "treaty/treatylaw18.ClaimValid", spec := "claimValid", unfollowed := true, recurses := true, apart := false }
def ClaimValidSaid : Prop := claimValidRow.holds Tryz.pinned (OpenSpec.ofChange claimValidSpec)

/-- ITS FALSE NEIGHBOUR: 'it returns false'. Refute it at one input. -/
def claimValidWrong : ChangeSpec := { name := "claimValid", fn := fun _ => fun
  | [d1, d2, d3, d4, d5] => { results := [.lit (.bool false)], args := [d1, d2, d3, d4, d5] }
  | _ => none }
def ClaimValidWrongFalsely : Prop := claimValidRow.holds Tryz.pinned (OpenSpec.ofChange claimValidWrong)

/-- 'treatylaw18.ClaimCapped': WHATEVER THE INPUT: true; the input reads as it did. -/
def claimCappedSpec : ChangeSpec := { name := "claimCapped", fn := fun _ => fun
  | [d1, d2] => { results := [.lit (.bool true)], args := [d1, d2] }
  | _ => none }
def claimCappedRow : OpenClaim := { program := "ytpkljcgihobaiaagreat", sum := "1df5241abfaf0e390ae1e9bf5033fe164f423ff49628589afe3e8c3aa20927c6", func := "treaty/treatylaw18.ClaimCapped", spec := "claimCapped", unfollowed := true, recurses := true, apart := false }
def ClaimCappedSaid : Prop := claimCappedRow.holds Tryz.pinned (OpenSpec.ofChange claimCappedSpec)

/-- ITS FALSE NEIGHBOUR: 'it returns false'. Refute it at one input. -/
def claimCappedWrong : ChangeSpec := { name := "claimCapped", fn := fun _ => fun
  | [d1, d2] => { results := [.lit (.bool false)], args := [d1, d2] }
  | _ => none }
def ClaimCappedWrongFalsely : Prop := claimCappedRow.holds Tryz.pinned (OpenSpec.ofChange claimCappedWrong)

/-- 'treatylaw18.ClaimEffective': WHATEVER THE INPUT: true; the input reads as it did. -/
def claimEffectiveSpec : ChangeSpec := { name := "claimEffective", fn := fun _ => fun
  | [d1, d2] => { results := [.lit (.bool true)], args := [d1, d2] }
  | _ => none }
def claimEffectiveRow : OpenClaim := { program := "ytpkljcgihobaiaagreat", sum := "1df5241abfaf0e390ae1e9bf5033fe164f423ff49628589afe3e8c3aa20927c6", func := "treaty/treatylaw18.ClaimEffective", spec := "claimEffective", unfollowed := true, recurses := true, apart := false }
def ClaimEffectiveSaid : Prop := claimEffectiveRow.holds Tryz.pinned (OpenSpec.ofChange claimEffectiveSpec)

/-- ITS FALSE NEIGHBOUR: 'it returns false'. Refute it at one input. -/
def claimEffectiveWrong : ChangeSpec := { name := "claimEffective", fn := fun _ => fun
  | [d1, d2] => { results := [.lit (.bool false)], args := [d1, d2] }
  | _ => none }
def ClaimEffectiveWrongFalsely : Prop := claimEffectiveRow.holds Tryz.pinned (OpenSpec.ofChange claimEffectiveWrong)

/- THE SECOND FORM. 'bulk': how many values and letters a reading holds, each counted each time it is reached (what is shared counts as often as it is met; a slice's spare places count too). A statement '..UptoSaid' is the law's where the arguments, and the package variables that the reading takes, are together of bulk at most 1048576: NARROWER than '..Said'. Prove '..Said' where nothing that the law and all that it calls make is longer than what came in: it says more and counts as full. Else prove '..UptoSaid'. A law counts once. -/
mutual
def uptoBulk {H : Type} : DataW H → Nat
  | .lit (.string bytes) => bytes.length + 1
  | .lit _ => 1
  | .nil => 1
  | .ptr d => uptoBulk d + 1
  | .slice elems spare => uptoBulkAll elems + uptoBulkAll spare + 1
  | .agg parts => uptoBulkAll parts + 1
  | .iface _ d => uptoBulk d + 1
  | .map entries => uptoBulkEntries entries + 1
  | .held _ => 1
def uptoBulkAll {H : Type} : List (DataW H) → Nat
  | [] => 0
  | d :: r => uptoBulk d + uptoBulkAll r
def uptoBulkEntries {H : Type} : List (Lit × DataW H) → Nat
  | [] => 0
  | x :: r => uptoBulkEntry x + uptoBulkEntries r
def uptoBulkEntry {H : Type} : Lit × DataW H → Nat
  | (.string bytes, d) => bytes.length + uptoBulk d + 1
  | (_, d) => uptoBulk d + 1
 end
def uptoSmall : (H : Type) → List (DataW H) → Bool := fun _ ds => decide (uptoBulkAll ds ≤ 1048576)
def OpenSpec.upto (s : _root_.Go.ChangeSpec) : _root_.Go.OpenSpec := { _root_.Go.OpenSpec.ofChange s with cond := some uptoSmall }

/-- 'treatylaw18.ClaimValid', WHERE WHAT IT READS IS OF BULK AT MOST 1048576: true; the input reads as it did. -/
def claimValidUptoRow : OpenClaim := { program := "ytpkljcgihobaiaagreat", sum := "1df5241abfaf0e390ae1e9bf5033fe164f423ff49628589afe3e8c3aa20927c6", func := "treaty/treatylaw18.ClaimValid", spec := "claimValid", unfollowed := true, recurses := true, apart := false, narrowed := true }
def ClaimValidUptoSaid : Prop := claimValidUptoRow.holds Tryz.pinned (OpenSpec.upto claimValidSpec)

/-- 'treatylaw18.ClaimCapped', WHERE WHAT IT READS IS OF BULK AT MOST 1048576: true; the input reads as it did. -/
def claimCappedUptoRow : OpenClaim := { program := "ytpkljcgihobaiaagreat", sum := "1df5241abfaf0e390ae1e9bf5033fe164f423ff49628589afe3e8c3aa20927c6", func := "treaty/treatylaw18.ClaimCapped", spec := "claimCapped", unfollowed := true, recurses := true, apart := false, narrowed := true }
def ClaimCappedUptoSaid : Prop := claimCappedUptoRow.holds Tryz.pinned (OpenSpec.upto claimCappedSpec)

/-- 'treatylaw18.ClaimEffective', WHERE WHAT IT READS IS OF BULK AT MOST 1048576: true; the input reads as it did. -/
def claimEffectiveUptoRow : OpenClaim := { program := "ytpkljcgihobaiaagreat", sum := "1df5241abfaf0e390ae1e9bf5033fe164f423ff49628589afe3e8c3aa20927c6", func := "treaty/treatylaw18.ClaimEffective", spec := "claimEffective", unfollowed := true, recurses := true, apart := false, narrowed := true }
def ClaimEffectiveUptoSaid : Prop := claimEffectiveUptoRow.holds Tryz.pinned (OpenSpec.upto claimEffectiveSpec)

end Rows
end Go.Proofs.YtpkljcgihobaiaaGreat
