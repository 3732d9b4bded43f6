/-
  treatylaw12.DecideMore returns true for every input and leaves its arguments as they were; condition: the package-level table is as the program's text lays it (tied by the card).
-/
import Derived.Test.YtefjomofjejklaaGreatDoorDt01
import Derived.Test.YtefjomofjejklaaGreatDoorDt02
import Derived.Test.YtefjomofjejklaaGreatDoorDt03
import Derived.Test.YtefjomofjejklaaGreatDoorDt04
import Derived.Test.YtefjomofjejklaaGreatDoorDt05
import Derived.Test.YtefjomofjejklaaGreatDoorDt06
import Derived.Test.YtefjomofjejklaaGreatDoorDt07
import Derived.Test.YtefjomofjejklaaGreatDoorDt08
import Derived.Test.YtefjomofjejklaaGreatDoorDt09
import Derived.Test.YtefjomofjejklaaGreatDoorDt10
import Derived.Test.YtefjomofjejklaaGreatDoorDt11
import Derived.Test.YtefjomofjejklaaGreatDoorDt12
import Derived.Test.YtefjomofjejklaaGreatDoorDt13
import Derived.Test.YtefjomofjejklaaGreatDoorDt14
import Derived.Test.YtefjomofjejklaaGreatDoorDt15
import Derived.Test.YtefjomofjejklaaGreatDoorDt16
import Derived.Test.YtefjomofjejklaaGreatDoorDt17
import Derived.Test.YtefjomofjejklaaGreatDoorDt18
import Derived.Test.YtefjomofjejklaaGreatDoorDt19
import Derived.Test.YtefjomofjejklaaGreatDoorDt20
import Derived.Test.YtefjomofjejklaaGreatDoorDt21
import Derived.Test.YtefjomofjejklaaGreatDoorDt22
import Derived.Test.YtefjomofjejklaaGreatDoorDt23
import Derived.Test.YtefjomofjejklaaGreatDoorDt24
import Derived.Test.YtefjomofjejklaaGreatDoorDt25
import Derived.Test.YtefjomofjejklaaGreatDoorCards
import Derived.Test.YtefjomofjejklaaGreatDoorTie
import Derived.Test.YtefjomofjejklaaGreatDoorProg
import Derived.WalkKit
import Derived.Deep.QuietTactic
import Derived.BigQuiet
import Derived.Lib.Hide
import Derived.ProofKit
import Derived.LaidMore
import Derived.OpenShut
import Derived.Deep.Fields
import Derived.Stop.Joined
import Derived.WalkMore
import Derived.Deep.LoopGhost
import Derived.IntWalk
import Derived.Carry
import Derived.ChangeSlices
import Derived.SizedLaws
import Derived.Test.YtefjomofjejklaaGreatDoorRows
import Derived.Test.YtefjomofjejklaaGreatDoorDm01
import Derived.Deep.AppendLies
import Derived.Deep.RegionLaw
import Derived.RegionTactic
import Derived.Maps.OwnSet
import Derived.Sort.KeysCollected
import Derived.Deep.DeepCutAuto
import Derived.StillTailTactics
import Derived.Orders
import Derived.BigFrame
import Derived.StringKeys
import Derived.Laws.Cover1
import Derived.Sort.Walk0
import Derived.Maps.AppendAt
import Derived.Deep.CutBlock
import Derived.Maps.Range
import Derived.Shelf.SlicesQ.Reverse
import Derived.RangeFuncNested
import Derived.RangeFuncBound
import Derived.RangeFuncCalls
import Derived.RangeFuncLeaves
import Derived.RangeFuncBox
import Derived.Shelf.Abstract
import Derived.Shelf.RegionOpen
import Derived.OwnWalkIn
import Derived.TacticsInMore
import Derived.LoopNIn
import Derived.LoopIn
import Derived.Maps.OwnIn
import Derived.Lib.Builder
import Derived.Outline
import Derived.Shelf.SlGeneric
import Derived.Shelf.SlIter.Nil
import Derived.Shelf.SortM.Plain
import Derived.Shelf.SortM.SortNone
import Derived.Ground.GgzProg
import Derived.Ground.SlgmProg
import Derived.Laws.BytesString
import Derived.SevenTiedAt
namespace Go.Proofs.YtefjomofjejklaaGreatDoor.decideMore
open Go.ChangeShapes Go.WideShapes Go.ChangeAt Go.RowKit

theorem walk {W : World} (a0 : Option Addr) (n0 c0 : Nat) (i0 : IntsAt W a0 n0) (b0 : n0 ≤ 1000000000000000) (a1 : Option Addr) (n1 c1 : Nat) (i1 : IntsAt W a1 n1) (b1 : n1 ≤ 1000000000000000) (a2 : Int) (w2 : (Lit.int .u8 a2).wf = true) (ho : HasOps W) :
    Calls Tryz.prog 5 #[.slice a0 n0 c0, .slice a1 n1 c1, .int .u8 a2] W (GivesE (.bool true) W) := dmore_calls a0 n0 c0 a1 n1 c1 a2 W i0 b0 i1 b1 w2 ho

/-- The door's own heap meets the condition. -/
theorem door_met (os : Os) (args : Array Value) : laidMetH Tryz.prog Rows.decideMoreRow.laid ((World.doorLaid Tryz.prog 400 os).forCall (fun _ _ => 0) ⟨#[], args, []⟩).memory :=
  laidMetH_of_parts3 (fuel := 8) (laidMet_of_run' 8 (by kernel_rfl) (by kernel_rfl)) (by kernel_rfl) (by kernel_rfl)

set_option maxRecDepth 100000 in
theorem lifted (os : Os) (started : os.Started) (H : Type) (enc : TypeId × Value → H) :
    ReturnsInHanded {} Tryz.checked os 5 .any (fun w args => (Rows.decideMoreSpec.pre enc Tryz.prog Tryz.f5 [] false w args ∧ laidMetH Tryz.prog Rows.decideMoreRow.laid w) ∧ sizedMet enc Tryz.prog Tryz.f5 (OpenSpec.ofChange Rows.decideMoreSpec) false w args)
      (Rows.decideMoreSpec.post enc Tryz.prog Tryz.f5 false true false false) := by
  refine returnsInHanded_of_change_and (C := Tryz.checked) (X := fun w _ => laidMetH Tryz.prog Rows.decideMoreRow.laid w) (fun _ _ _ hh h => h.of_heap hh) own started (by kernel_rfl) Tryz.func5
    (ChangeSpec.witness_shaped (enc := enc) (C := Tryz.checked) (os := os) (X := fun w _ => laidMetH Tryz.prog Rows.decideMoreRow.laid w) false (World.doorLaid Tryz.prog 400 os) #[.slice none 0 0, .slice none 0 0, .int .u8 0] 8 rfl (World.shaped_of_RefB (by kernel_rfl) (by kernel_rfl)) (by kernel_rfl) (by kernel_rfl) (by kernel_rfl) (door_met os _)) ?_
  intro W base args ds gs before hval0 hW _ hsz0 hL _
  have hval : ∀ (j : Nat) t v, Tryz.f5.params[j]? = some t → args[j]? = some v → Value.okWide Tryz.prog W .any base t v := hval0
  have hsz : (DataW.weightsEach Tryz.prog (Tryz.f5.params.toList ++ []) (ds ++ gs)).all (· ≤ reachBytes) = true := hsz0
  have hW' := hW
  obtain ⟨p, q, hA0, hV, rfl, hfz, hnd⟩ := hW
  have hA : DataW.TrodAll enc Tryz.prog W 0 (fun _ => true) true Tryz.f5.params.toList args.toList ds p := hA0
  rw [Tryz.params5] at hA hval hsz
  obtain ⟨v0, vs0, d0, ds0, p0, q0, hargs, rfl, rfl, h0, r0⟩ := trodAll_cons hA
  obtain ⟨v1, vs1, d1, ds1, p1, q1, rfl, rfl, rfl, h1, r1⟩ := trodAll_cons r0
  obtain ⟨v2, vs2, d2, ds2, p2, q2, rfl, rfl, rfl, h2, r2⟩ := trodAll_cons r1
  obtain ⟨rfl, rfl, rfl⟩ := trodAll_nil r2
  obtain rfl : args = #[v0, v1, v2] := by cases args; simp_all
  obtain ⟨rfl, rfl⟩ := trodVars_none hV
  obtain ⟨a0, n0, c0, e0, i0, b0⟩ := ints_arg (hval 0 26 v0 rfl rfl) h0 hsz (j := 0) rfl rfl
  subst e0
  obtain ⟨a1, n1, c1, e1, i1, b1⟩ := ints_arg (hval 1 26 v1 rfl rfl) h1 hsz (j := 1) rfl rfl
  subst e1
  obtain ⟨a2, rfl, rfl, rfl, w2⟩ := open_int uBy (hval 2 5 v2 rfl rfl) h2
  clear hA0 hval0
  simp only [List.append_nil] at hW'
  refine (walk a0 n0 c0 i0 b0 a1 n1 c1 i1 b1 a2 w2 (hasOps_of_laid hL)).mono fun e W' ⟨he, hg⟩ => ?_
  subst he
  exact ⟨_, rfl, law_post2 hW' rfl rfl rfl rfl rfl (by kernel_rfl) hg⟩

theorem holds : Rows.DecideMoreSaid :=
  OpenClaim.holds_of_wide 5 Tryz.f5 rfl rfl rfl rfl rfl rfl rfl ⟨rfl, rfl, rfl, rfl, rfl⟩ rfl rfl rfl rfl rfl (by kernel_rfl) Tryz.func5 (by kernel_rfl)
    (of_decide_eq_true (by kernel_rfl)) (by unfold Func.isWrapper; first | (rw [if_pos (by decide +kernel)]; kernel_rfl) | (rw [if_neg (by decide +kernel)]; exact ⟨rfl, rfl⟩))
    (fun os started H enc _ => lifted os started H enc)

theorem card_holds : Rows.DecideMoreCardSaid :=
  Claim7.holds_tied_plain_at .later [] [.data] true Rows.decideMoreCard.stood.harness true
    holds (fun _ h => by cases h) (by kernel_rfl) (fun _ h => by cases h) decideMore_row_tie rfl ⟨rfl, rfl⟩ (by kernel_rfl) rfl
    (fun f fn hf hfn => by
      obtain rfl : f = 5 := Option.some.inj ((show Tryz.prog.funcNamed "treaty/treatylaw12.DecideMore" = some 5 by kernel_rfl).symm.trans hf) |>.symm
      obtain rfl : fn = Tryz.f5 := (Option.some.inj (Tryz.func5.symm.trans hfn)).symm
      exact ⟨by kernel_rfl, fun j t ht => by
        rw [Tryz.params5] at ht
        have hm : t ∈ [26, 26, 5] := by simpa using Array.mem_of_getElem? ht
        have hall : ([26, 26, 5].all fun u => !Tryz.prog.wantsStandIn u) = true := by kernel_rfl
        exact (show Tryz.prog.wantsStandIn t = false by simpa using List.all_eq_true.1 hall t hm)⟩)
    (by kernel_rfl)
#print axioms card_holds
end Go.Proofs.YtefjomofjejklaaGreatDoor.decideMore
