/-
  treatylaw12.DecideVerdict returns true for every input and leaves its arguments as they were; condition: the package-level table is as the program's text lays it (tied by the card).
-/
import Derived.Test.YtefjomofjejklaaGreatDoorCards
import Derived.Test.YtefjomofjejklaaGreatDoorTie
import Derived.Test.YtefjomofjejklaaGreatDoorDv03
import Derived.Test.YtefjomofjejklaaGreatDoorDv01
import Derived.Test.YtefjomofjejklaaGreatDoorProg
import Derived.WalkKit
import Derived.Deep.QuietTactic
import Derived.BigQuiet
import Derived.Lib.Hide
import Derived.ProofKit
import Derived.LaidMore
import Derived.OpenShut
import Derived.Deep.Fields
import Derived.Stop.Joined
import Derived.Test.YtefjomofjejklaaGreatDoorDv02
import Derived.WalkMore
import Derived.Deep.LoopGhost
import Derived.IntWalk
import Derived.Carry
import Derived.ChangeSlices
import Derived.SizedLaws
import Derived.Test.YtefjomofjejklaaGreatDoorRows
import Derived.Test.YtefjomofjejklaaGreatDoorDv24
import Derived.Test.YtefjomofjejklaaGreatDoorDv23
import Derived.Test.YtefjomofjejklaaGreatDoorDv13
import Derived.Test.YtefjomofjejklaaGreatDoorDv08
import Derived.Test.YtefjomofjejklaaGreatDoorDv05
import Derived.Test.YtefjomofjejklaaGreatDoorDv04
import Derived.Deep.AppendLies
import Derived.Deep.RegionLaw
import Derived.RegionTactic
import Derived.Orders
import Derived.BigFrame
import Derived.Laws.BytesString
import Derived.Test.YtefjomofjejklaaGreatDoorDv06
import Derived.Maps.OwnSet
import Derived.Sort.KeysCollected
import Derived.Test.YtefjomofjejklaaGreatDoorDv07
import Derived.Deep.DeepCutAuto
import Derived.StillTailTactics
import Derived.Maps.AppendAt
import Derived.Test.YtefjomofjejklaaGreatDoorDv09
import Derived.StringKeys
import Derived.Laws.Cover1
import Derived.Sort.Walk0
import Derived.Test.YtefjomofjejklaaGreatDoorDv12
import Derived.Test.YtefjomofjejklaaGreatDoorDv11
import Derived.Test.YtefjomofjejklaaGreatDoorDv10
import Derived.Maps.Range
import Derived.Lib.Builder
import Derived.Outline
import Derived.Shelf.SlGeneric
import Derived.Shelf.SlIter.Nil
import Derived.Shelf.SortM.Plain
import Derived.Shelf.SortM.SortNone
import Derived.Ground.GgzProg
import Derived.Ground.SlgmProg
import Derived.Test.YtefjomofjejklaaGreatDoorDv14
import Derived.Test.YtefjomofjejklaaGreatDoorDv22
import Derived.Test.YtefjomofjejklaaGreatDoorDv21
import Derived.Test.YtefjomofjejklaaGreatDoorDv20
import Derived.Test.YtefjomofjejklaaGreatDoorDv18
import Derived.Test.YtefjomofjejklaaGreatDoorDv15
import Derived.Test.YtefjomofjejklaaGreatDoorDv16
import Derived.Test.YtefjomofjejklaaGreatDoorDv17
import Derived.Test.YtefjomofjejklaaGreatDoorDv19
import Derived.Deep.CutBlock
import Derived.Shelf.SlicesQ.Reverse
import Derived.RangeFuncNested
import Derived.RangeFuncBound
import Derived.RangeFuncCalls
import Derived.RangeFuncLeaves
import Derived.RangeFuncBox
import Derived.Shelf.Abstract
import Derived.Shelf.RegionOpen
import Derived.OwnWalkIn
import Derived.TacticsInMore
import Derived.LoopNIn
import Derived.LoopIn
import Derived.Maps.OwnIn
import Derived.SliceStrings
import Derived.SevenTiedAt
namespace Go.Proofs.YtefjomofjejklaaGreatDoor.decideVerdict
open Go.ChangeShapes Go.WideShapes Go.ChangeAt Go.RowKit

theorem walk {W : World} (s0 : List Attr) (v0 : Value) (i0 : IsSchema W s0 v0) (f0 : ∀ x ∈ s0, x.fits) (b0 : s0.length ≤ 1000000000000000) (l1 : List Cla) (a1 : Option Addr) (n1 c1 : Nat) (i1 : IsClas W l1 a1 n1 c1) (f1 : ∀ x ∈ l1, x.fit) (_b1 : n1 ≤ 1000000000000000) (a2 : Option Addr) (n2 c2 : Nat) (i2 : IntsAt W a2 n2) (b2 : n2 ≤ 1000000000000000) (a3 : Option Addr) (n3 c3 : Nat) (i3 : IntsAt W a3 n3) (b3 : n3 ≤ 1000000000000000) (a4 : Int) (_w4 : (Lit.int .i64 a4).wf = true) (a5 : Int) (_w5 : (Lit.int .i64 a5).wf = true) (ho : HasOps W) :
    Calls Tryz.prog 3 #[v0, .slice a1 n1 c1, .slice a2 n2 c2, .slice a3 n3 c3, .int .i64 a4, .int .i64 a5] W (GivesE (.bool true) W) := dverdict_calls s0 v0 l1 a1 n1 c1 a2 n2 c2 a3 n3 c3 a4 a5 W i0 f0 b0 i1 f1 i2 b2 i3 b3 ho

/-- The door's own heap meets the condition. -/
theorem door_met (os : Os) (args : Array Value) : laidMetH Tryz.prog Rows.decideVerdictRow.laid ((World.doorLaid Tryz.prog 400 os).forCall (fun _ _ => 0) ⟨#[], args, []⟩).memory :=
  laidMetH_of_parts3 (fuel := 8) (laidMet_of_run' 8 (by kernel_rfl) (by kernel_rfl)) (by kernel_rfl) (by kernel_rfl)

set_option maxRecDepth 100000 in
theorem lifted (os : Os) (started : os.Started) (H : Type) (enc : TypeId × Value → H) :
    ReturnsInHanded {} Tryz.checked os 3 .any (fun w args => (Rows.decideVerdictSpec.pre enc Tryz.prog Tryz.f3 [] false w args ∧ laidMetH Tryz.prog Rows.decideVerdictRow.laid w) ∧ sizedMet enc Tryz.prog Tryz.f3 (OpenSpec.ofChange Rows.decideVerdictSpec) false w args)
      (Rows.decideVerdictSpec.post enc Tryz.prog Tryz.f3 false true false false) := by
  refine returnsInHanded_of_change_and (C := Tryz.checked) (X := fun w _ => laidMetH Tryz.prog Rows.decideVerdictRow.laid w) (fun _ _ _ hh h => h.of_heap hh) own started (by kernel_rfl) Tryz.func3
    (ChangeSpec.witness_shaped (enc := enc) (C := Tryz.checked) (os := os) (X := fun w _ => laidMetH Tryz.prog Rows.decideVerdictRow.laid w) false (World.doorLaid Tryz.prog 400 os) #[.agg #[.slice none 0 0], .slice none 0 0, .slice none 0 0, .slice none 0 0, .int .i64 0, .int .i64 0] 8 rfl (World.shaped_of_RefB (by kernel_rfl) (by kernel_rfl)) (by kernel_rfl) (by kernel_rfl) (by kernel_rfl) (door_met os _)) ?_
  intro W base args ds gs before hval0 hW _ hsz0 hL _
  have hval : ∀ (j : Nat) t v, Tryz.f3.params[j]? = some t → args[j]? = some v → Value.okWide Tryz.prog W .any base t v := hval0
  have hsz : (DataW.weightsEach Tryz.prog (Tryz.f3.params.toList ++ []) (ds ++ gs)).all (· ≤ reachBytes) = true := hsz0
  have hW' := hW
  obtain ⟨p, q, hA0, hV, rfl, hfz, hnd⟩ := hW
  have hA : DataW.TrodAll enc Tryz.prog W 0 (fun _ => true) true Tryz.f3.params.toList args.toList ds p := hA0
  rw [Tryz.params3] at hA hval hsz
  obtain ⟨v0, vs0, d0, ds0, p0, q0, hargs, rfl, rfl, h0, r0⟩ := trodAll_cons hA
  obtain ⟨v1, vs1, d1, ds1, p1, q1, rfl, rfl, rfl, h1, r1⟩ := trodAll_cons r0
  obtain ⟨v2, vs2, d2, ds2, p2, q2, rfl, rfl, rfl, h2, r2⟩ := trodAll_cons r1
  obtain ⟨v3, vs3, d3, ds3, p3, q3, rfl, rfl, rfl, h3, r3⟩ := trodAll_cons r2
  obtain ⟨v4, vs4, d4, ds4, p4, q4, rfl, rfl, rfl, h4, r4⟩ := trodAll_cons r3
  obtain ⟨v5, vs5, d5, ds5, p5, q5, rfl, rfl, rfl, h5, r5⟩ := trodAll_cons r4
  obtain ⟨rfl, rfl, rfl⟩ := trodAll_nil r5
  obtain rfl : args = #[v0, v1, v2, v3, v4, v5] := by cases args; simp_all
  obtain ⟨rfl, rfl⟩ := trodVars_none hV
  obtain ⟨s0, i0, f0, b0⟩ := schema_arg h0 (hval 0 24 v0 rfl rfl) hsz (j := 0) rfl rfl
  obtain ⟨l1, a1, n1, c1, e1, i1, f1, b1⟩ := clas_arg (hval 1 25 v1 rfl rfl) h1 hsz (j := 1) rfl rfl
  subst e1
  obtain ⟨a2, n2, c2, e2, i2, b2⟩ := ints_arg (hval 2 26 v2 rfl rfl) h2 hsz (j := 2) rfl rfl
  subst e2
  obtain ⟨a3, n3, c3, e3, i3, b3⟩ := ints_arg (hval 3 26 v3 rfl rfl) h3 hsz (j := 3) rfl rfl
  subst e3
  obtain ⟨a4, rfl, rfl, rfl, w4⟩ := open_int uI (hval 4 3 v4 rfl rfl) h4
  obtain ⟨a5, rfl, rfl, rfl, w5⟩ := open_int uI (hval 5 3 v5 rfl rfl) h5
  clear hA0 hval0
  simp only [List.append_nil] at hW'
  refine (walk s0 v0 i0 f0 b0 l1 a1 n1 c1 i1 f1 b1 a2 n2 c2 i2 b2 a3 n3 c3 i3 b3 a4 w4 a5 w5 (hasOps_of_laid hL)).mono fun e W' ⟨he, hg⟩ => ?_
  subst he
  exact ⟨_, rfl, law_post2 hW' rfl rfl rfl rfl rfl (by kernel_rfl) hg⟩

theorem holds : Rows.DecideVerdictSaid :=
  OpenClaim.holds_of_wide 3 Tryz.f3 rfl rfl rfl rfl rfl rfl rfl ⟨rfl, rfl, rfl, rfl, rfl⟩ rfl rfl rfl rfl rfl (by kernel_rfl) Tryz.func3 (by kernel_rfl)
    (of_decide_eq_true (by kernel_rfl)) (by unfold Func.isWrapper; first | (rw [if_pos (by decide +kernel)]; kernel_rfl) | (rw [if_neg (by decide +kernel)]; exact ⟨rfl, rfl⟩))
    (fun os started H enc _ => lifted os started H enc)

theorem card_holds : Rows.DecideVerdictCardSaid :=
  Claim7.holds_tied_plain_at .later [] [.data] true Rows.decideVerdictCard.stood.harness true
    holds (fun _ h => by cases h) (by kernel_rfl) (fun _ h => by cases h) decideVerdict_row_tie rfl ⟨rfl, rfl⟩ (by kernel_rfl) rfl
    (fun f fn hf hfn => by
      obtain rfl : f = 3 := Option.some.inj ((show Tryz.prog.funcNamed "treaty/treatylaw12.DecideVerdict" = some 3 by kernel_rfl).symm.trans hf) |>.symm
      obtain rfl : fn = Tryz.f3 := (Option.some.inj (Tryz.func3.symm.trans hfn)).symm
      exact ⟨by kernel_rfl, fun j t ht => by
        rw [Tryz.params3] at ht
        have hm : t ∈ [24, 25, 26, 26, 3, 3] := by simpa using Array.mem_of_getElem? ht
        have hall : ([24, 25, 26, 26, 3, 3].all fun u => !Tryz.prog.wantsStandIn u) = true := by kernel_rfl
        exact (show Tryz.prog.wantsStandIn t = false by simpa using List.all_eq_true.1 hall t hm)⟩)
    (by kernel_rfl)
#print axioms card_holds
end Go.Proofs.YtefjomofjejklaaGreatDoor.decideVerdict
