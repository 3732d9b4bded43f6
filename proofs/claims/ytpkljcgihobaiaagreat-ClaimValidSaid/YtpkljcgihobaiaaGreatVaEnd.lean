/-
  treatylaw18.ClaimValid returns true for every input and leaves its arguments as they were; no condition.
-/
import Derived.Test.YtpkljcgihobaiaaGreatEf01
import Derived.Test.YtpkljcgihobaiaaGreatEf02
import Derived.Test.YtpkljcgihobaiaaGreatEf03
import Derived.Test.YtpkljcgihobaiaaGreatEf04
import Derived.Test.YtpkljcgihobaiaaGreatEf05
import Derived.Test.YtpkljcgihobaiaaGreatEf06
import Derived.Test.YtpkljcgihobaiaaGreatEf07
import Derived.Test.YtpkljcgihobaiaaGreatEf08
import Derived.Test.YtpkljcgihobaiaaGreatEf09
import Derived.Test.YtpkljcgihobaiaaGreatEf10
import Derived.Test.YtpkljcgihobaiaaGreatEf11
import Derived.Test.YtpkljcgihobaiaaGreatEf12
import Derived.Test.YtpkljcgihobaiaaGreatEf13
import Derived.Test.YtpkljcgihobaiaaGreatEf14
import Derived.Test.YtpkljcgihobaiaaGreatEf15
import Derived.Test.YtpkljcgihobaiaaGreatEf16
import Derived.Test.YtpkljcgihobaiaaGreatEf17
import Derived.Test.YtpkljcgihobaiaaGreatEf18
import Derived.Test.YtpkljcgihobaiaaGreatEf19
import Derived.Test.YtpkljcgihobaiaaGreatRows
import Derived.Test.YtpkljcgihobaiaaGreatVa01
import Derived.Test.YtpkljcgihobaiaaGreatProg
import Derived.WalkKit
import Derived.Deep.QuietTactic
import Derived.BigQuiet
import Derived.Lib.Hide
import Derived.ProofKit
import Derived.LaidMore
import Derived.OpenShut
import Derived.Deep.Fields
import Derived.Stop.Joined
import Derived.WalkMore
import Derived.Deep.LoopGhost
import Derived.IntWalk
import Derived.Carry
import Derived.ChangeSlices
import Derived.SizedLaws
import Derived.Deep.AppendLies
import Derived.Deep.RegionLaw
import Derived.RegionTactic
import Derived.SliceStrings
import Derived.Maps.OwnSet
import Derived.Sort.KeysCollected
import Derived.Deep.DeepCutAuto
import Derived.Orders
import Derived.BigFrame
import Derived.Deep.CutBlock
import Derived.StringKeys
import Derived.Maps.Range
import Derived.Shelf.SlicesQ.Reverse
import Derived.RangeFuncNested
import Derived.RangeFuncBound
import Derived.RangeFuncCalls
import Derived.RangeFuncLeaves
import Derived.RangeFuncBox
import Derived.Shelf.Abstract
import Derived.Shelf.RegionOpen
import Derived.OwnWalkIn
import Derived.TacticsInMore
import Derived.LoopNIn
import Derived.LoopIn
import Derived.Maps.OwnIn
import Derived.StillTailTactics
import Derived.Laws.BytesString
import Derived.Maps.AppendAt
import Derived.Lib.Builder
import Derived.Outline
import Derived.Laws.Cover1
import Derived.Sort.Walk0
import Derived.Shelf.SlGeneric
import Derived.Shelf.SlIter.Nil
import Derived.Shelf.SortM.Plain
import Derived.Shelf.SortM.SortNone
import Derived.Ground.GgzProg
import Derived.Ground.SlgmProg
import Derived.Test.YtpkljcgihobaiaaGreatVa03
import Derived.Test.YtpkljcgihobaiaaGreatVa02
import Derived.Lib.SlicesCompact
import Derived.Lib.SliceRun
namespace Go.Proofs.YtpkljcgihobaiaaGreat.claimValid
open Go.ChangeShapes Go.WideShapes Go.ChangeAt Go.RowKit

set_option maxRecDepth 100000 in
theorem lifted (os : Os) (started : os.Started) (H : Type) (enc : TypeId × Value → H) :
    ReturnsInHanded {} Tryz.checked os 3 .any (Rows.claimValidSpec.pre6 enc Tryz.prog Tryz.f3 [] false)
      (Rows.claimValidSpec.post enc Tryz.prog Tryz.f3 false true false false) := by
  have e : Rows.claimValidSpec.pre6 enc Tryz.prog Tryz.f3 [] false = fun w args => (Rows.claimValidSpec.pre enc Tryz.prog Tryz.f3 [] false w args ∧ True) ∧ sizedMet enc Tryz.prog Tryz.f3 (OpenSpec.ofChange Rows.claimValidSpec) false w args := by
    funext w args
    simp only [ChangeSpec.pre6, and_true]
  rw [e]
  refine returnsInHanded_of_change_and (C := Tryz.checked) (X := fun _ _ => True) (fun _ _ _ _ h => h) own started (by kernel_rfl) Tryz.func3
    (ChangeSpec.witness_shaped (enc := enc) (C := Tryz.checked) (os := os) (X := fun _ _ => True) false (World.doorLaid Tryz.prog 400 os) #[.agg #[.slice none 0 0], .agg #[.int .i64 0, .int .i64 0, .int .i64 0, .int .i64 0, .int .i64 0, .int .i64 0, .slice none 0 0], .agg #[.int .i64 0, .int .i64 0, .int .i64 0, .slice none 0 0, .int .i64 0, .int .i64 0, .int .i64 0], .slice none 0 0, .slice none 0 0] 8 rfl (World.shaped_of_RefB (by kernel_rfl) (by kernel_rfl)) (by kernel_rfl) (by kernel_rfl) (by kernel_rfl) trivial) ?_
  intro W base args ds gs before hval0 hW _ hsz0 _ _
  have hval : ∀ (j : Nat) t v, Tryz.f3.params[j]? = some t → args[j]? = some v → Value.okWide Tryz.prog W .any base t v := hval0
  have hsz : (DataW.weightsEach Tryz.prog (Tryz.f3.params.toList ++ []) (ds ++ gs)).all (· ≤ reachBytes) = true := hsz0
  have hW' := hW
  obtain ⟨p, q, hA0, hV, rfl, hfz, hnd⟩ := hW
  have hA : DataW.TrodAll enc Tryz.prog W 0 (fun _ => true) true Tryz.f3.params.toList args.toList ds p := hA0
  rw [Tryz.params3] at hA hval hsz
  obtain ⟨v0, vs0, d0, ds0, p0, q0, hargs, rfl, rfl, h0, r0⟩ := trodAll_cons hA
  obtain ⟨v1, vs1, d1, ds1, p1, q1, rfl, rfl, rfl, h1, r1⟩ := trodAll_cons r0
  obtain ⟨v2, vs2, d2, ds2, p2, q2, rfl, rfl, rfl, h2, r2⟩ := trodAll_cons r1
  obtain ⟨v3, vs3, d3, ds3, p3, q3, rfl, rfl, rfl, h3, r3⟩ := trodAll_cons r2
  obtain ⟨v4, vs4, d4, ds4, p4, q4, rfl, rfl, rfl, h4, r4⟩ := trodAll_cons r3
  obtain ⟨rfl, rfl, rfl⟩ := trodAll_nil r4
  obtain rfl : args = #[v0, v1, v2, v3, v4] := by cases args; simp_all
  obtain ⟨rfl, rfl⟩ := trodVars_none hV
  obtain ⟨s0, i0, f0, b0⟩ := schema_arg h0 (hval 0 24 v0 rfl rfl) hsz (j := 0) rfl rfl
  obtain ⟨c1, a1, n1, k1, e1, i1, f1, b1⟩ := claim_arg h1 (hval 1 27 v1 rfl rfl) hsz (j := 1) rfl rfl
  subst e1
  obtain ⟨x2, e2, i2, f2⟩ := event_arg h2 (hval 2 30 v2 rfl rfl) hsz (j := 2) rfl rfl
  subst e2
  obtain ⟨a3, n3, c3, e3, i3, b3⟩ := ints_arg (hval 3 31 v3 rfl rfl) h3 hsz (j := 3) rfl rfl
  subst e3
  obtain ⟨a4, n4, c4, e4, i4, b4⟩ := ints_arg (hval 4 31 v4 rfl rfl) h4 hsz (j := 4) rfl rfl
  subst e4
  clear hA0 hval0
  simp only [List.append_nil] at hW'
  refine (validW_calls s0 v0 W i0 f0 b0 c1 a1 n1 k1 i1 f1 x2 i2 f2 a3 n3 c3 i3 b3 a4 n4 c4 i4 b4).mono fun e W' ⟨he, hg⟩ => ?_
  subst he
  exact ⟨_, rfl, law_post2 hW' rfl rfl rfl rfl rfl (by kernel_rfl) hg⟩

theorem holds : Rows.ClaimValidSaid :=
  OpenClaim.holds_of_wide 3 Tryz.f3 rfl rfl rfl rfl rfl rfl rfl ⟨rfl, rfl, rfl, rfl, rfl⟩ rfl rfl rfl rfl rfl (by kernel_rfl) Tryz.func3 (by kernel_rfl)
    (of_decide_eq_true (by kernel_rfl)) (by unfold Func.isWrapper; first | (rw [if_pos (by decide +kernel)]; kernel_rfl) | (rw [if_neg (by decide +kernel)]; exact ⟨rfl, rfl⟩))
    (fun os started H enc _ => lifted os started H enc)
#print axioms holds
end Go.Proofs.YtpkljcgihobaiaaGreat.claimValid
