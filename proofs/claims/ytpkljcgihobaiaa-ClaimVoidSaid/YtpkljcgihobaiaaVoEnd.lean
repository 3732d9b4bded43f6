/-
  treatylaw18.ClaimVoid returns true for every input and leaves its argument as it was; no condition.
-/
import Derived.Test.YtpkljcgihobaiaaRows
import Derived.Test.YtpkljcgihobaiaaVo02
import Derived.Test.YtpkljcgihobaiaaVo01
import Derived.Test.YtpkljcgihobaiaaProg
import Derived.WalkKit
import Derived.Deep.QuietTactic
import Derived.BigQuiet
import Derived.Lib.Hide
import Derived.ProofKit
import Derived.LaidMore
import Derived.OpenShut
import Derived.Deep.Fields
import Derived.Stop.Joined
import Derived.WalkMore
import Derived.Deep.LoopGhost
import Derived.IntWalk
import Derived.Carry
import Derived.ChangeSlices
import Derived.SizedLaws
import Derived.Test.YtpkljcgihobaiaaVo19
import Derived.Test.YtpkljcgihobaiaaVo18
import Derived.Test.YtpkljcgihobaiaaVo14
import Derived.Test.YtpkljcgihobaiaaVo09
import Derived.Test.YtpkljcgihobaiaaVo03
import Derived.Orders
import Derived.Deep.AppendLies
import Derived.Deep.RegionLaw
import Derived.RegionTactic
import Derived.BigFrame
import Derived.Test.YtpkljcgihobaiaaVo06
import Derived.Test.YtpkljcgihobaiaaVo05
import Derived.Test.YtpkljcgihobaiaaVo04
import Derived.Laws.BytesString
import Derived.Test.YtpkljcgihobaiaaVo08
import Derived.Test.YtpkljcgihobaiaaVo07
import Derived.Maps.OwnSet
import Derived.Sort.KeysCollected
import Derived.Deep.DeepCutAuto
import Derived.StillTailTactics
import Derived.Maps.AppendAt
import Derived.Test.YtpkljcgihobaiaaVo11
import Derived.Test.YtpkljcgihobaiaaVo10
import Derived.StringKeys
import Derived.Laws.Cover1
import Derived.Sort.Walk0
import Derived.Maps.Range
import Derived.Lib.Builder
import Derived.Outline
import Derived.Shelf.SlGeneric
import Derived.Shelf.SlIter.Nil
import Derived.Shelf.SortM.Plain
import Derived.Shelf.SortM.SortNone
import Derived.Ground.GgzProg
import Derived.Ground.SlgmProg
import Derived.Test.YtpkljcgihobaiaaVo13
import Derived.Test.YtpkljcgihobaiaaVo12
import Derived.Test.YtpkljcgihobaiaaVo17
import Derived.Test.YtpkljcgihobaiaaVo15
import Derived.Deep.CutBlock
import Derived.Test.YtpkljcgihobaiaaVo16
import Derived.Shelf.SlicesQ.Reverse
import Derived.RangeFuncNested
import Derived.RangeFuncBound
import Derived.RangeFuncCalls
import Derived.RangeFuncLeaves
import Derived.RangeFuncBox
import Derived.Shelf.Abstract
import Derived.Shelf.RegionOpen
import Derived.OwnWalkIn
import Derived.TacticsInMore
import Derived.LoopNIn
import Derived.LoopIn
import Derived.Maps.OwnIn
namespace Go.Proofs.Ytpkljcgihobaiaa.claimVoid
open Go.ChangeShapes Go.WideShapes Go.ChangeAt Go.RowKit

set_option maxRecDepth 100000 in
theorem lifted (os : Os) (started : os.Started) (H : Type) (enc : TypeId × Value → H) :
    ReturnsInHanded {} Try.checked os 3 .any (Rows.claimVoidSpec.pre6 enc Try.prog Try.f3 [] false)
      (Rows.claimVoidSpec.post enc Try.prog Try.f3 false true false false) := by
  have e : Rows.claimVoidSpec.pre6 enc Try.prog Try.f3 [] false = fun w args => (Rows.claimVoidSpec.pre enc Try.prog Try.f3 [] false w args ∧ True) ∧ sizedMet enc Try.prog Try.f3 (OpenSpec.ofChange Rows.claimVoidSpec) false w args := by
    funext w args
    simp only [ChangeSpec.pre6, and_true]
  rw [e]
  refine returnsInHanded_of_change_and (C := Try.checked) (X := fun _ _ => True) (fun _ _ _ _ h => h) own started (by kernel_rfl) Try.func3
    (ChangeSpec.witness_shaped (enc := enc) (C := Try.checked) (os := os) (X := fun _ _ => True) false (World.doorLaid Try.prog 400 os) #[.slice none 0 0] 8 rfl (World.shaped_of_RefB (by kernel_rfl) (by kernel_rfl)) (by kernel_rfl) (by kernel_rfl) (by kernel_rfl) trivial) ?_
  intro W base args ds gs before hval0 hW _ hsz0 _ _
  have hval : ∀ (j : Nat) t v, Try.f3.params[j]? = some t → args[j]? = some v → Value.okWide Try.prog W .any base t v := hval0
  have hsz : (DataW.weightsEach Try.prog (Try.f3.params.toList ++ []) (ds ++ gs)).all (· ≤ reachBytes) = true := hsz0
  have hW' := hW
  obtain ⟨p, q, hA0, hV, rfl, hfz, hnd⟩ := hW
  have hA : DataW.TrodAll enc Try.prog W 0 (fun _ => true) true Try.f3.params.toList args.toList ds p := hA0
  rw [Try.params3] at hA hval hsz
  obtain ⟨v0, vs0, d0, ds0, p0, q0, hargs, rfl, rfl, h0, r0⟩ := trodAll_cons hA
  obtain ⟨rfl, rfl, rfl⟩ := trodAll_nil r0
  obtain rfl : args = #[v0] := by cases args; simp_all
  obtain ⟨rfl, rfl⟩ := trodVars_none hV
  obtain ⟨a0, n0, c0, e0, i0, b0⟩ := ints_arg (hval 0 22 v0 rfl rfl) h0 hsz (j := 0) rfl rfl
  subst e0
  clear hA0 hval0
  simp only [List.append_nil] at hW'
  refine (void_calls a0 n0 c0 W i0 b0).mono fun e W' ⟨he, hg⟩ => ?_
  subst he
  exact ⟨_, rfl, law_post2 hW' rfl rfl rfl rfl rfl (by kernel_rfl) hg⟩

theorem holds : Rows.ClaimVoidSaid :=
  OpenClaim.holds_of_wide 3 Try.f3 rfl rfl rfl rfl rfl rfl rfl ⟨rfl, rfl, rfl, rfl, rfl⟩ rfl rfl rfl rfl rfl (by kernel_rfl) Try.func3 (by kernel_rfl)
    (of_decide_eq_true (by kernel_rfl)) (by unfold Func.isWrapper; first | (rw [if_pos (by decide +kernel)]; kernel_rfl) | (rw [if_neg (by decide +kernel)]; exact ⟨rfl, rfl⟩))
    (fun os started H enc _ => lifted os started H enc)
#print axioms holds
end Go.Proofs.Ytpkljcgihobaiaa.claimVoid
