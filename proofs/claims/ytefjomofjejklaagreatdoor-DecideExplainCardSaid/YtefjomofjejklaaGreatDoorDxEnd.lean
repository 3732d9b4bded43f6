/-
  treatylaw12.DecideExplain returns true for every input and leaves its arguments as they were; condition: the package-level table is as the program's text lays it (tied by the card).
-/
import Derived.Test.YtefjomofjejklaaGreatDoorCards
import Derived.Test.YtefjomofjejklaaGreatDoorTie
import Derived.Test.YtefjomofjejklaaGreatDoorDx03
import Derived.Test.YtefjomofjejklaaGreatDoorDx01
import Derived.Test.YtefjomofjejklaaGreatDoorProg
import Derived.WalkKit
import Derived.Deep.QuietTactic
import Derived.BigQuiet
import Derived.Lib.Hide
import Derived.ProofKit
import Derived.LaidMore
import Derived.OpenShut
import Derived.Deep.Fields
import Derived.Stop.Joined
import Derived.Test.YtefjomofjejklaaGreatDoorDx02
import Derived.WalkMore
import Derived.Deep.LoopGhost
import Derived.IntWalk
import Derived.Carry
import Derived.ChangeSlices
import Derived.SizedLaws
import Derived.Test.YtefjomofjejklaaGreatDoorRows
import Derived.Test.YtefjomofjejklaaGreatDoorDx28
import Derived.Test.YtefjomofjejklaaGreatDoorDx21
import Derived.Test.YtefjomofjejklaaGreatDoorDx12
import Derived.Test.YtefjomofjejklaaGreatDoorDx08
import Derived.Test.YtefjomofjejklaaGreatDoorDx05
import Derived.Test.YtefjomofjejklaaGreatDoorDx04
import Derived.Deep.AppendLies
import Derived.Deep.RegionLaw
import Derived.RegionTactic
import Derived.Orders
import Derived.BigFrame
import Derived.Laws.BytesString
import Derived.Test.YtefjomofjejklaaGreatDoorDx07
import Derived.Test.YtefjomofjejklaaGreatDoorDx06
import Derived.Maps.OwnSet
import Derived.Sort.KeysCollected
import Derived.Deep.DeepCutAuto
import Derived.StillTailTactics
import Derived.Maps.AppendAt
import Derived.Test.YtefjomofjejklaaGreatDoorDx09
import Derived.StringKeys
import Derived.Laws.Cover1
import Derived.Sort.Walk0
import Derived.Test.YtefjomofjejklaaGreatDoorDx11
import Derived.Test.YtefjomofjejklaaGreatDoorDx10
import Derived.Maps.Range
import Derived.Lib.Builder
import Derived.Outline
import Derived.Shelf.SlGeneric
import Derived.Shelf.SlIter.Nil
import Derived.Shelf.SortM.Plain
import Derived.Shelf.SortM.SortNone
import Derived.Ground.GgzProg
import Derived.Ground.SlgmProg
import Derived.Test.YtefjomofjejklaaGreatDoorDx14
import Derived.Test.YtefjomofjejklaaGreatDoorDx13
import Derived.Test.YtefjomofjejklaaGreatDoorDx20
import Derived.Test.YtefjomofjejklaaGreatDoorDx19
import Derived.Test.YtefjomofjejklaaGreatDoorDx17
import Derived.Test.YtefjomofjejklaaGreatDoorDx15
import Derived.Test.YtefjomofjejklaaGreatDoorDx16
import Derived.Test.YtefjomofjejklaaGreatDoorDx18
import Derived.Deep.CutBlock
import Derived.Shelf.SlicesQ.Reverse
import Derived.RangeFuncNested
import Derived.RangeFuncBound
import Derived.RangeFuncCalls
import Derived.RangeFuncLeaves
import Derived.RangeFuncBox
import Derived.Shelf.Abstract
import Derived.Shelf.RegionOpen
import Derived.OwnWalkIn
import Derived.TacticsInMore
import Derived.LoopNIn
import Derived.LoopIn
import Derived.Maps.OwnIn
import Derived.Test.YtefjomofjejklaaGreatDoorDx22
import Derived.Test.YtefjomofjejklaaGreatDoorDx26
import Derived.Test.YtefjomofjejklaaGreatDoorDx24
import Derived.Test.YtefjomofjejklaaGreatDoorDx23
import Derived.Test.YtefjomofjejklaaGreatDoorDx25
import Derived.SliceStrings
import Derived.Test.YtefjomofjejklaaGreatDoorDx27
import Derived.SevenTiedAt
namespace Go.Proofs.YtefjomofjejklaaGreatDoor.decideExplain
open Go.ChangeShapes Go.WideShapes Go.ChangeAt Go.RowKit
theorem walk {W : World} (a0 : Option Addr) (n0 c0 : Nat) (i0 : gB W a0 n0) (b0 : n0 ≤ 1000000000000000) (a1 : Option Addr) (n1 c1 : Nat) (i1 : gB W a1 n1) (b1 : n1 ≤ 1000000000000000) (ho : gG W) :
    Calls Tryz.prog 8 #[.slice a0 n0 c0, .slice a1 n1 c1] W (dN (.bool true) W) := anF a0 n0 c0 a1 n1 c1 W i0 b0 i1 b1 ho
theorem door_met (os : Os) (args : Array Value) : laidMetH Tryz.prog Rows.decideExplainRow.laid ((World.doorLaid Tryz.prog 400 os).forCall (fun _ _ => 0) ⟨#[], args, []⟩).memory :=
  laidMetH_of_parts3 (fuel := 8) (laidMet_of_run' 8 (by kernel_rfl) (by kernel_rfl)) (by kernel_rfl) (by kernel_rfl)
set_option maxRecDepth 100000 in
theorem lifted (os : Os) (started : os.Started) (H : Type) (enc : TypeId × Value → H) :
    ReturnsInHanded {} Tryz.checked os 8 .any (fun w args => (Rows.decideExplainSpec.pre enc Tryz.prog Tryz.f8 [] false w args ∧ laidMetH Tryz.prog Rows.decideExplainRow.laid w) ∧ sizedMet enc Tryz.prog Tryz.f8 (OpenSpec.ofChange Rows.decideExplainSpec) false w args)
      (Rows.decideExplainSpec.post enc Tryz.prog Tryz.f8 false true false false) := by
  refine returnsInHanded_of_change_and (C := Tryz.checked) (X := fun w _ => laidMetH Tryz.prog Rows.decideExplainRow.laid w) (fun _ _ _ hh h => h.of_heap hh) own started (by kernel_rfl) Tryz.func8
    (ChangeSpec.witness_shaped (enc := enc) (C := Tryz.checked) (os := os) (X := fun w _ => laidMetH Tryz.prog Rows.decideExplainRow.laid w) false (World.doorLaid Tryz.prog 400 os) #[.slice none 0 0, .slice none 0 0] 8 rfl (World.shaped_of_RefB (by kernel_rfl) (by kernel_rfl)) (by kernel_rfl) (by kernel_rfl) (by kernel_rfl) (door_met os _)) ?_
  intro W base args ds gs before hval0 hW _ hsz0 hL _
  have hval : ∀ (j : Nat) t v, Tryz.f8.params[j]? = some t → args[j]? = some v → Value.okWide Tryz.prog W .any base t v := hval0
  have hsz : (DataW.weightsEach Tryz.prog (Tryz.f8.params.toList ++ []) (ds ++ gs)).all (· ≤ reachBytes) = true := hsz0
  have hW' := hW
  obtain ⟨p, q, hA0, hV, rfl, hfz, hnd⟩ := hW
  have hA : DataW.TrodAll enc Tryz.prog W 0 (fun _ => true) true Tryz.f8.params.toList args.toList ds p := hA0
  rw [Tryz.params8] at hA hval hsz
  obtain ⟨v0, vs0, d0, ds0, p0, q0, hargs, rfl, rfl, h0, r0⟩ := trodAll_cons hA
  obtain ⟨v1, vs1, d1, ds1, p1, q1, rfl, rfl, rfl, h1, r1⟩ := trodAll_cons r0
  obtain ⟨rfl, rfl, rfl⟩ := trodAll_nil r1
  obtain rfl : args = #[v0, v1] := by cases args; simp_all
  obtain ⟨rfl, rfl⟩ := trodVars_none hV
  obtain ⟨a0, n0, c0, e0, i0, b0⟩ := jC (hval 0 26 v0 rfl rfl) h0 hsz (j := 0) rfl rfl
  subst e0
  obtain ⟨a1, n1, c1, e1, i1, b1⟩ := jC (hval 1 26 v1 rfl rfl) h1 hsz (j := 1) rfl rfl
  subst e1
  clear hA0 hval0
  simp only [List.append_nil] at hW'
  refine (walk a0 n0 c0 i0 b0 a1 n1 c1 i1 b1 (iQ hL)).mono fun e W' ⟨he, hg⟩ => ?_
  subst he
  exact ⟨_, rfl, lF hW' rfl rfl rfl rfl rfl (by kernel_rfl) hg⟩
theorem holds : Rows.DecideExplainSaid :=
  OpenClaim.holds_of_wide 8 Tryz.f8 rfl rfl rfl rfl rfl rfl rfl ⟨rfl, rfl, rfl, rfl, rfl⟩ rfl rfl rfl rfl rfl (by kernel_rfl) Tryz.func8 (by kernel_rfl)
    (of_decide_eq_true (by kernel_rfl)) (by unfold Func.isWrapper; first | (rw [dw (by decide +kernel)]; kernel_rfl) | (rw [dh (by decide +kernel)]; exact ⟨rfl, rfl⟩))
    (fun os started H enc _ => lifted os started H enc)
theorem card_holds : Rows.DecideExplainCardSaid :=
  Claim7.holds_tied_plain_at .later [] [.data] true Rows.decideExplainCard.stood.harness true
    holds (fun _ h => by cases h) (by kernel_rfl) (fun _ h => by cases h) decideExplain_row_tie rfl ⟨rfl, rfl⟩ (by kernel_rfl) rfl
    (fun f fn hf hfn => by
      obtain rfl : f = 8 := Option.some.inj ((show Tryz.prog.funcNamed "treaty/treatylaw12.DecideExplain" = some 8 by kernel_rfl).symm.trans hf) |>.symm
      obtain rfl : fn = Tryz.f8 := (Option.some.inj (Tryz.func8.symm.trans hfn)).symm
      exact ⟨by kernel_rfl, fun j t ht => by
        rw [Tryz.params8] at ht
        have hm : t ∈ [26, 26] := by simpa using Array.mem_of_getElem? ht
        have hall : ([26, 26].all fun u => !Tryz.prog.wantsStandIn u) = true := by kernel_rfl
        exact (show Tryz.prog.wantsStandIn t = false by simpa using aV.1 hall t hm)⟩)
    (by kernel_rfl)
#print axioms card_holds
end Go.Proofs.YtefjomofjejklaaGreatDoor.decideExplain
