/-
  treatylaw18.ClaimCapped returns true for every input and leaves its arguments as they were; no condition.
-/
import Derived.Test.YtefjomofjejklaaGreatRows
import Derived.Test.YtefjomofjejklaaGreatCc03
import Derived.Test.YtefjomofjejklaaGreatCc01
import Derived.Test.YtefjomofjejklaaGreatProg
import Derived.WalkKit
import Derived.Deep.QuietTactic
import Derived.BigQuiet
import Derived.Lib.Hide
import Derived.ProofKit
import Derived.LaidMore
import Derived.OpenShut
import Derived.Deep.Fields
import Derived.Stop.Joined
import Derived.Test.YtefjomofjejklaaGreatCc02
import Derived.WalkMore
import Derived.Deep.LoopGhost
import Derived.IntWalk
import Derived.Carry
import Derived.ChangeSlices
import Derived.SizedLaws
import Derived.Test.YtefjomofjejklaaGreatCc27
import Derived.Test.YtefjomofjejklaaGreatCc24
import Derived.Test.YtefjomofjejklaaGreatCc21
import Derived.Test.YtefjomofjejklaaGreatCc20
import Derived.Test.YtefjomofjejklaaGreatCc16
import Derived.Test.YtefjomofjejklaaGreatCc08
import Derived.Test.YtefjomofjejklaaGreatCc07
import Derived.Test.YtefjomofjejklaaGreatCc06
import Derived.Test.YtefjomofjejklaaGreatCc05
import Derived.Test.YtefjomofjejklaaGreatCc04
import Derived.Deep.AppendLies
import Derived.Deep.RegionLaw
import Derived.RegionTactic
import Derived.Maps.OwnSet
import Derived.Sort.KeysCollected
import Derived.Deep.DeepCutAuto
import Derived.StillTailTactics
import Derived.Orders
import Derived.BigFrame
import Derived.Test.YtefjomofjejklaaGreatCc10
import Derived.Test.YtefjomofjejklaaGreatCc09
import Derived.Test.YtefjomofjejklaaGreatCc11
import Derived.Test.YtefjomofjejklaaGreatCc13
import Derived.Test.YtefjomofjejklaaGreatCc12
import Derived.StringKeys
import Derived.Laws.Cover1
import Derived.Sort.Walk0
import Derived.Maps.AppendAt
import Derived.Test.YtefjomofjejklaaGreatCc15
import Derived.Test.YtefjomofjejklaaGreatCc14
import Derived.Deep.CutBlock
import Derived.Maps.Range
import Derived.Shelf.SlicesQ.Reverse
import Derived.RangeFuncNested
import Derived.RangeFuncBound
import Derived.RangeFuncCalls
import Derived.RangeFuncLeaves
import Derived.RangeFuncBox
import Derived.Shelf.Abstract
import Derived.Shelf.RegionOpen
import Derived.OwnWalkIn
import Derived.TacticsInMore
import Derived.LoopNIn
import Derived.LoopIn
import Derived.Maps.OwnIn
import Derived.Test.YtefjomofjejklaaGreatCc19
import Derived.Lib.SlicesCompact
import Derived.Test.YtefjomofjejklaaGreatCc18
import Derived.Test.YtefjomofjejklaaGreatCc17
import Derived.Laws.BytesString
import Derived.Lib.Builder
import Derived.Outline
import Derived.Shelf.SlGeneric
import Derived.Shelf.SlIter.Nil
import Derived.Shelf.SortM.Plain
import Derived.Shelf.SortM.SortNone
import Derived.Ground.GgzProg
import Derived.Ground.SlgmProg
import Derived.Lib.SliceRun
import Derived.SliceStrings
import Derived.Test.YtefjomofjejklaaGreatCc22
import Derived.Test.YtefjomofjejklaaGreatCc23
import Derived.Test.YtefjomofjejklaaGreatCc25
import Derived.Test.YtefjomofjejklaaGreatCc26
namespace Go.Proofs.YtefjomofjejklaaGreat.claimCapped
open Go.ChangeShapes Go.WideShapes Go.ChangeAt Go.RowKit

set_option maxRecDepth 100000 in
theorem lifted (os : Os) (started : os.Started) (H : Type) (enc : TypeId × Value → H) :
    ReturnsInHanded {} Tryz.checked os 3 .any (Rows.claimCappedSpec.pre6 enc Tryz.prog Tryz.f3 [] false)
      (Rows.claimCappedSpec.post enc Tryz.prog Tryz.f3 false true false false) := by
  have e : Rows.claimCappedSpec.pre6 enc Tryz.prog Tryz.f3 [] false = fun w args => (Rows.claimCappedSpec.pre enc Tryz.prog Tryz.f3 [] false w args ∧ True) ∧ sizedMet enc Tryz.prog Tryz.f3 (OpenSpec.ofChange Rows.claimCappedSpec) false w args := by
    funext w args
    simp only [ChangeSpec.pre6, and_true]
  rw [e]
  refine returnsInHanded_of_change_and (C := Tryz.checked) (X := fun _ _ => True) (fun _ _ _ _ h => h) own started (by kernel_rfl) Tryz.func3
    (ChangeSpec.witness_shaped (enc := enc) (C := Tryz.checked) (os := os) (X := fun _ _ => True) false (World.doorLaid Tryz.prog 400 os) #[.slice none 0 0, .int .i64 0] 8 rfl (World.shaped_of_RefB (by kernel_rfl) (by kernel_rfl)) (by kernel_rfl) (by kernel_rfl) (by kernel_rfl) trivial) ?_
  intro W base args ds gs before hval0 hW _ hsz0 _ _
  have hval : ∀ (j : Nat) t v, Tryz.f3.params[j]? = some t → args[j]? = some v → Value.okWide Tryz.prog W .any base t v := hval0
  have hsz : (DataW.weightsEach Tryz.prog (Tryz.f3.params.toList ++ []) (ds ++ gs)).all (· ≤ reachBytes) = true := hsz0
  have hW' := hW
  obtain ⟨p, q, hA0, hV, rfl, hfz, hnd⟩ := hW
  have hA : DataW.TrodAll enc Tryz.prog W 0 (fun _ => true) true Tryz.f3.params.toList args.toList ds p := hA0
  rw [Tryz.params3] at hA hval hsz
  obtain ⟨v0, vs0, d0, ds0, p0, q0, hargs, rfl, rfl, h0, r0⟩ := trodAll_cons hA
  obtain ⟨v1, vs1, d1, ds1, p1, q1, rfl, rfl, rfl, h1, r1⟩ := trodAll_cons r0
  obtain ⟨rfl, rfl, rfl⟩ := trodAll_nil r1
  obtain rfl : args = #[v0, v1] := by cases args; simp_all
  obtain ⟨rfl, rfl⟩ := trodVars_none hV
  obtain ⟨a0, n0, c0, e0, i0, b0⟩ := ints_arg (hval 0 22 v0 rfl rfl) h0 hsz (j := 0) rfl rfl
  subst e0
  obtain ⟨a1, rfl, rfl, rfl, w1⟩ := open_int uI (hval 1 3 v1 rfl rfl) h1
  clear hA0 hval0
  simp only [List.append_nil] at hW'
  refine (capW_calls a0 n0 c0 a1 W i0 b0).mono fun e W' ⟨he, hg⟩ => ?_
  subst he
  exact ⟨_, rfl, law_post2 hW' rfl rfl rfl rfl rfl (by kernel_rfl) hg⟩

theorem holds : Rows.ClaimCappedSaid :=
  OpenClaim.holds_of_wide 3 Tryz.f3 rfl rfl rfl rfl rfl rfl rfl ⟨rfl, rfl, rfl, rfl, rfl⟩ rfl rfl rfl rfl rfl (by kernel_rfl) Tryz.func3 (by kernel_rfl)
    (of_decide_eq_true (by kernel_rfl)) (by unfold Func.isWrapper; first | (rw [if_pos (by decide +kernel)]; kernel_rfl) | (rw [if_neg (by decide +kernel)]; exact ⟨rfl, rfl⟩))
    (fun os started H enc _ => lifted os started H enc)
#print axioms holds
end Go.Proofs.YtefjomofjejklaaGreat.claimCapped
