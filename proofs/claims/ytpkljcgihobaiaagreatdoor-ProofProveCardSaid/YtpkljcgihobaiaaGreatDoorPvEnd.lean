/-
  treatylaw11.ProofProve returns true for every input and leaves its arguments as they were; condition: the package-level table is as the program's text lays it (tied by the card).
-/
import Derived.Test.YtpkljcgihobaiaaGreatDoorSo01
import Derived.Test.YtpkljcgihobaiaaGreatDoorSo02
import Derived.Test.YtpkljcgihobaiaaGreatDoorSo03
import Derived.Test.YtpkljcgihobaiaaGreatDoorSo04
import Derived.Test.YtpkljcgihobaiaaGreatDoorSo05
import Derived.Test.YtpkljcgihobaiaaGreatDoorSo06
import Derived.Test.YtpkljcgihobaiaaGreatDoorSo07
import Derived.Test.YtpkljcgihobaiaaGreatDoorSo08
import Derived.Test.YtpkljcgihobaiaaGreatDoorSo09
import Derived.Test.YtpkljcgihobaiaaGreatDoorSo10
import Derived.Test.YtpkljcgihobaiaaGreatDoorSo11
import Derived.Test.YtpkljcgihobaiaaGreatDoorSo12
import Derived.Test.YtpkljcgihobaiaaGreatDoorSo13
import Derived.Test.YtpkljcgihobaiaaGreatDoorSo14
import Derived.Test.YtpkljcgihobaiaaGreatDoorSo15
import Derived.Test.YtpkljcgihobaiaaGreatDoorSo16
import Derived.Test.YtpkljcgihobaiaaGreatDoorSo17
import Derived.Test.YtpkljcgihobaiaaGreatDoorSo18
import Derived.Test.YtpkljcgihobaiaaGreatDoorSo19
import Derived.Test.YtpkljcgihobaiaaGreatDoorSo20
import Derived.Test.YtpkljcgihobaiaaGreatDoorSo21
import Derived.Test.YtpkljcgihobaiaaGreatDoorSo22
import Derived.Test.YtpkljcgihobaiaaGreatDoorCards
import Derived.Test.YtpkljcgihobaiaaGreatDoorTie
import Derived.Test.YtpkljcgihobaiaaGreatDoorProg
import Derived.WalkKit
import Derived.Deep.QuietTactic
import Derived.BigQuiet
import Derived.Lib.Hide
import Derived.ProofKit
import Derived.LaidMore
import Derived.OpenShut
import Derived.Deep.Fields
import Derived.Stop.Joined
import Derived.WalkMore
import Derived.Deep.LoopGhost
import Derived.IntWalk
import Derived.Carry
import Derived.ChangeSlices
import Derived.SizedLaws
import Derived.Test.YtpkljcgihobaiaaGreatDoorRows
import Derived.Test.YtpkljcgihobaiaaGreatDoorPv05
import Derived.Test.YtpkljcgihobaiaaGreatDoorPv04
import Derived.Test.YtpkljcgihobaiaaGreatDoorPv03
import Derived.Test.YtpkljcgihobaiaaGreatDoorPv02
import Derived.Deep.AppendLies
import Derived.Deep.RegionLaw
import Derived.RegionTactic
import Derived.Test.YtpkljcgihobaiaaGreatDoorPv01
import Derived.Maps.OwnSet
import Derived.Sort.KeysCollected
import Derived.Orders
import Derived.BigFrame
import Derived.Deep.DeepCutAuto
import Derived.StillTailTactics
import Derived.Laws.BytesString
import Derived.Maps.AppendAt
import Derived.StringKeys
import Derived.Maps.Range
import Derived.Lib.Builder
import Derived.Outline
import Derived.Laws.Cover1
import Derived.Sort.Walk0
import Derived.Shelf.SlGeneric
import Derived.Shelf.SlIter.Nil
import Derived.Shelf.SortM.Plain
import Derived.Shelf.SortM.SortNone
import Derived.Ground.GgzProg
import Derived.Ground.SlgmProg
import Derived.SliceStrings
import Derived.SevenTiedAt
namespace Go.Proofs.YtpkljcgihobaiaaGreatDoor.proofProve
open Go.ChangeShapes Go.WideShapes Go.ChangeAt Go.RowKit

theorem walk {W : World} (a0 : Option Addr) (n0 c0 : Nat) (i0 : IntsAt W a0 n0) (b0 : n0 ≤ 1000000000000000) (e1 : Ex) (v1 : Value) (i1 : IsEx W e1 v1) (b1 : e1.fits ∧ e1.few ∧ e1.slim) (ho : HasOps W) :
    Calls Tryz.prog 3 #[.slice a0 n0 c0, v1] W (GivesE (.bool true) W) := pprove_calls a0 n0 c0 e1 v1 W i0 b0 i1 b1.1 b1.2.1 b1.2.2 ho

/-- The door's own heap meets the condition. -/
theorem door_met (os : Os) (args : Array Value) : laidMetH Tryz.prog Rows.proofProveRow.laid ((World.doorLaid Tryz.prog 400 os).forCall (fun _ _ => 0) ⟨#[], args, []⟩).memory :=
  laidMetH_of_parts3 (fuel := 8) (laidMet_of_run' 8 (by kernel_rfl) (by kernel_rfl)) (by kernel_rfl) (by kernel_rfl)

set_option maxRecDepth 100000 in
theorem lifted (os : Os) (started : os.Started) (H : Type) (enc : TypeId × Value → H) :
    ReturnsInHanded {} Tryz.checked os 3 .any (fun w args => (Rows.proofProveSpec.pre enc Tryz.prog Tryz.f3 [] false w args ∧ laidMetH Tryz.prog Rows.proofProveRow.laid w) ∧ sizedMet enc Tryz.prog Tryz.f3 (OpenSpec.ofChange Rows.proofProveSpec) false w args)
      (Rows.proofProveSpec.post enc Tryz.prog Tryz.f3 false true false false) := by
  refine returnsInHanded_of_change_and (C := Tryz.checked) (X := fun w _ => laidMetH Tryz.prog Rows.proofProveRow.laid w) (fun _ _ _ hh h => h.of_heap hh) own started (by kernel_rfl) Tryz.func3
    (ChangeSpec.witness_shaped (enc := enc) (C := Tryz.checked) (os := os) (X := fun w _ => laidMetH Tryz.prog Rows.proofProveRow.laid w) false (World.doorLaid Tryz.prog 400 os) #[.slice none 0 0, .agg #[.int .i64 0, .string ⟨#[]⟩, .slice none 0 0, .int .i64 0, .int .i64 0, .slice none 0 0]] 8 rfl (World.shaped_of_RefB (by kernel_rfl) (by kernel_rfl)) (by kernel_rfl) (by kernel_rfl) (by kernel_rfl) (door_met os _)) ?_
  intro W base args ds gs before hval0 hW _ hsz0 hL _
  have hval : ∀ (j : Nat) t v, Tryz.f3.params[j]? = some t → args[j]? = some v → Value.okWide Tryz.prog W .any base t v := hval0
  have hsz : (DataW.weightsEach Tryz.prog (Tryz.f3.params.toList ++ []) (ds ++ gs)).all (· ≤ reachBytes) = true := hsz0
  have hW' := hW
  obtain ⟨p, q, hA0, hV, rfl, hfz, hnd⟩ := hW
  have hA : DataW.TrodAll enc Tryz.prog W 0 (fun _ => true) true Tryz.f3.params.toList args.toList ds p := hA0
  rw [Tryz.params3] at hA hval hsz
  obtain ⟨v0, vs0, d0, ds0, p0, q0, hargs, rfl, rfl, h0, r0⟩ := trodAll_cons hA
  obtain ⟨v1, vs1, d1, ds1, p1, q1, rfl, rfl, rfl, h1, r1⟩ := trodAll_cons r0
  obtain ⟨rfl, rfl, rfl⟩ := trodAll_nil r1
  obtain rfl : args = #[v0, v1] := by cases args; simp_all
  obtain ⟨rfl, rfl⟩ := trodVars_none hV
  obtain ⟨a0, n0, c0, e0, i0, b0⟩ := ints_arg (hval 0 22 v0 rfl rfl) h0 hsz (j := 0) rfl rfl
  subst e0
  obtain ⟨e1, i1, b1⟩ := expr_arg2 h1 (hval 1 26 v1 rfl rfl) hsz (j := 1) rfl rfl
  clear hA0 hval0
  simp only [List.append_nil] at hW'
  refine (walk a0 n0 c0 i0 b0 e1 v1 i1 b1 (hasOps_of_laid hL)).mono fun e W' ⟨he, hg⟩ => ?_
  subst he
  exact ⟨_, rfl, law_post2 hW' rfl rfl rfl rfl rfl (by kernel_rfl) hg⟩

theorem holds : Rows.ProofProveSaid :=
  OpenClaim.holds_of_wide 3 Tryz.f3 rfl rfl rfl rfl rfl rfl rfl ⟨rfl, rfl, rfl, rfl, rfl⟩ rfl rfl rfl rfl rfl (by kernel_rfl) Tryz.func3 (by kernel_rfl)
    (of_decide_eq_true (by kernel_rfl)) (by unfold Func.isWrapper; first | (rw [if_pos (by decide +kernel)]; kernel_rfl) | (rw [if_neg (by decide +kernel)]; exact ⟨rfl, rfl⟩))
    (fun os started H enc _ => lifted os started H enc)

theorem card_holds : Rows.ProofProveCardSaid :=
  Claim7.holds_tied_plain_at .later [] [.data] true Rows.proofProveCard.stood.harness true
    holds (fun _ h => by cases h) (by kernel_rfl) (fun _ h => by cases h) proofProve_row_tie rfl ⟨rfl, rfl⟩ (by kernel_rfl) rfl
    (fun f fn hf hfn => by
      obtain rfl : f = 3 := Option.some.inj ((show Tryz.prog.funcNamed "treaty/treatylaw11.ProofProve" = some 3 by kernel_rfl).symm.trans hf) |>.symm
      obtain rfl : fn = Tryz.f3 := (Option.some.inj (Tryz.func3.symm.trans hfn)).symm
      exact ⟨by kernel_rfl, fun j t ht => by
        rw [Tryz.params3] at ht
        have hm : t ∈ [22, 26] := by simpa using Array.mem_of_getElem? ht
        have hall : ([22, 26].all fun u => !Tryz.prog.wantsStandIn u) = true := by kernel_rfl
        exact (show Tryz.prog.wantsStandIn t = false by simpa using List.all_eq_true.1 hall t hm)⟩)
    (by kernel_rfl)
#print axioms card_holds
end Go.Proofs.YtpkljcgihobaiaaGreatDoor.proofProve
