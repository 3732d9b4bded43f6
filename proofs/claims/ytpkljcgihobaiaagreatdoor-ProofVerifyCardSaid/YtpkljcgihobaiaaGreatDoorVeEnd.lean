/-
  treatylaw11.ProofVerify returns true for every input and leaves its arguments as they were; condition: the package-level table is as the program's text lays it (tied by the card).
-/
import Derived.Test.YtpkljcgihobaiaaGreatDoorCards
import Derived.Test.YtpkljcgihobaiaaGreatDoorTie
import Derived.Test.YtpkljcgihobaiaaGreatDoorVe03
import Derived.Test.YtpkljcgihobaiaaGreatDoorVe01
import Derived.Test.YtpkljcgihobaiaaGreatDoorProg
import Derived.WalkKit
import Derived.Deep.QuietTactic
import Derived.BigQuiet
import Derived.Lib.Hide
import Derived.ProofKit
import Derived.LaidMore
import Derived.OpenShut
import Derived.Deep.Fields
import Derived.Stop.Joined
import Derived.Test.YtpkljcgihobaiaaGreatDoorVe02
import Derived.WalkMore
import Derived.Deep.LoopGhost
import Derived.IntWalk
import Derived.Carry
import Derived.ChangeSlices
import Derived.SizedLaws
import Derived.Test.YtpkljcgihobaiaaGreatDoorRows
import Derived.Test.YtpkljcgihobaiaaGreatDoorVe28
import Derived.Test.YtpkljcgihobaiaaGreatDoorVe26
import Derived.Test.YtpkljcgihobaiaaGreatDoorVe25
import Derived.Test.YtpkljcgihobaiaaGreatDoorVe24
import Derived.Test.YtpkljcgihobaiaaGreatDoorVe10
import Derived.Test.YtpkljcgihobaiaaGreatDoorVe09
import Derived.Test.YtpkljcgihobaiaaGreatDoorVe08
import Derived.Test.YtpkljcgihobaiaaGreatDoorVe05
import Derived.Deep.AppendLies
import Derived.Deep.RegionLaw
import Derived.RegionTactic
import Derived.Test.YtpkljcgihobaiaaGreatDoorVe04
import Derived.Maps.OwnSet
import Derived.Sort.KeysCollected
import Derived.Test.YtpkljcgihobaiaaGreatDoorVe07
import Derived.Test.YtpkljcgihobaiaaGreatDoorVe06
import Derived.Orders
import Derived.BigFrame
import Derived.Deep.DeepCutAuto
import Derived.StillTailTactics
import Derived.Test.YtpkljcgihobaiaaGreatDoorVe21
import Derived.Test.YtpkljcgihobaiaaGreatDoorVe11
import Derived.Laws.BytesString
import Derived.Maps.AppendAt
import Derived.Test.YtpkljcgihobaiaaGreatDoorVe14
import Derived.Test.YtpkljcgihobaiaaGreatDoorVe12
import Derived.Test.YtpkljcgihobaiaaGreatDoorVe13
import Derived.StringKeys
import Derived.Maps.Range
import Derived.Lib.Builder
import Derived.Outline
import Derived.Laws.Cover1
import Derived.Sort.Walk0
import Derived.Shelf.SlGeneric
import Derived.Shelf.SlIter.Nil
import Derived.Shelf.SortM.Plain
import Derived.Shelf.SortM.SortNone
import Derived.Ground.GgzProg
import Derived.Ground.SlgmProg
import Derived.Test.YtpkljcgihobaiaaGreatDoorVe18
import Derived.Test.YtpkljcgihobaiaaGreatDoorVe15
import Derived.Test.YtpkljcgihobaiaaGreatDoorVe16
import Derived.Test.YtpkljcgihobaiaaGreatDoorVe17
import Derived.Test.YtpkljcgihobaiaaGreatDoorVe20
import Derived.Test.YtpkljcgihobaiaaGreatDoorVe19
import Derived.Test.YtpkljcgihobaiaaGreatDoorVe22
import Derived.Test.YtpkljcgihobaiaaGreatDoorVe23
import Derived.SliceStrings
import Derived.Test.YtpkljcgihobaiaaGreatDoorVe27
import Derived.SevenTiedAt
namespace Go.Proofs.YtpkljcgihobaiaaGreatDoor.proofVerify
open Go.ChangeShapes Go.WideShapes Go.ChangeAt Go.RowKit

theorem walk {W : World} (a0 : Option Addr) (n0 c0 : Nat) (i0 : IntsAt W a0 n0) (b0 : n0 ≤ 1000000000000000) (a1 : Option Addr) (n1 c1 : Nat) (i1 : IntsAt W a1 n1) (b1 : n1 ≤ 1000000000000000) (p2 : Pr) (v2 : PrV) (i2 : IsPr W p2 v2) (b2 : p2.fit) (a3 : Option Addr) (n3 c3 : Nat) (i3 : IntsAt W a3 n3) (b3 : n3 ≤ 1000000000000000) (ho : HasOps W) :
    Calls Tryz.prog 5 #[.slice a0 n0 c0, .slice a1 n1 c1, v2.val, .slice a3 n3 c3] W (GivesE (.bool true) W) := pverify_calls a0 n0 c0 a1 n1 c1 p2 v2 a3 n3 c3 W i0 b0 i1 b1 i2 b2 i3 b3 ho

/-- The door's own heap meets the condition. -/
theorem door_met (os : Os) (args : Array Value) : laidMetH Tryz.prog Rows.proofVerifyRow.laid ((World.doorLaid Tryz.prog 400 os).forCall (fun _ _ => 0) ⟨#[], args, []⟩).memory :=
  laidMetH_of_parts3 (fuel := 8) (laidMet_of_run' 8 (by kernel_rfl) (by kernel_rfl)) (by kernel_rfl) (by kernel_rfl)

set_option maxRecDepth 100000 in
theorem lifted (os : Os) (started : os.Started) (H : Type) (enc : TypeId × Value → H) :
    ReturnsInHanded {} Tryz.checked os 5 .any (fun w args => (Rows.proofVerifySpec.pre enc Tryz.prog Tryz.f5 [] false w args ∧ laidMetH Tryz.prog Rows.proofVerifyRow.laid w) ∧ sizedMet enc Tryz.prog Tryz.f5 (OpenSpec.ofChange Rows.proofVerifySpec) false w args)
      (Rows.proofVerifySpec.post enc Tryz.prog Tryz.f5 false true false false) := by
  refine returnsInHanded_of_change_and (C := Tryz.checked) (X := fun w _ => laidMetH Tryz.prog Rows.proofVerifyRow.laid w) (fun _ _ _ hh h => h.of_heap hh) own started (by kernel_rfl) Tryz.func5
    (ChangeSpec.witness_shaped (enc := enc) (C := Tryz.checked) (os := os) (X := fun w _ => laidMetH Tryz.prog Rows.proofVerifyRow.laid w) false (World.doorLaid Tryz.prog 400 os) #[.slice none 0 0, .slice none 0 0, .agg #[.bool false, .int .i64 0, .slice none 0 0], .slice none 0 0] 8 rfl (World.shaped_of_RefB (by kernel_rfl) (by kernel_rfl)) (by kernel_rfl) (by kernel_rfl) (by kernel_rfl) (door_met os _)) ?_
  intro W base args ds gs before hval0 hW _ hsz0 hL _
  have hval : ∀ (j : Nat) t v, Tryz.f5.params[j]? = some t → args[j]? = some v → Value.okWide Tryz.prog W .any base t v := hval0
  have hsz : (DataW.weightsEach Tryz.prog (Tryz.f5.params.toList ++ []) (ds ++ gs)).all (· ≤ reachBytes) = true := hsz0
  have hW' := hW
  obtain ⟨p, q, hA0, hV, rfl, hfz, hnd⟩ := hW
  have hA : DataW.TrodAll enc Tryz.prog W 0 (fun _ => true) true Tryz.f5.params.toList args.toList ds p := hA0
  rw [Tryz.params5] at hA hval hsz
  obtain ⟨v0, vs0, d0, ds0, p0, q0, hargs, rfl, rfl, h0, r0⟩ := trodAll_cons hA
  obtain ⟨v1, vs1, d1, ds1, p1, q1, rfl, rfl, rfl, h1, r1⟩ := trodAll_cons r0
  obtain ⟨v2, vs2, d2, ds2, p2, q2, rfl, rfl, rfl, h2, r2⟩ := trodAll_cons r1
  obtain ⟨v3, vs3, d3, ds3, p3, q3, rfl, rfl, rfl, h3, r3⟩ := trodAll_cons r2
  obtain ⟨rfl, rfl, rfl⟩ := trodAll_nil r3
  obtain rfl : args = #[v0, v1, v2, v3] := by cases args; simp_all
  obtain ⟨rfl, rfl⟩ := trodVars_none hV
  obtain ⟨a0, n0, c0, e0, i0, b0⟩ := ints_arg (hval 0 22 v0 rfl rfl) h0 hsz (j := 0) rfl rfl
  subst e0
  obtain ⟨a1, n1, c1, e1, i1, b1⟩ := ints_arg (hval 1 22 v1 rfl rfl) h1 hsz (j := 1) rfl rfl
  subst e1
  obtain ⟨p2', x2, e2, i2, b2⟩ := proof_arg h2 (hval 2 40 v2 rfl rfl) hsz (j := 2) rfl rfl
  subst e2
  obtain ⟨a3, n3, c3, e3, i3, b3⟩ := ints_arg (hval 3 22 v3 rfl rfl) h3 hsz (j := 3) rfl rfl
  subst e3
  clear hA0 hval0
  simp only [List.append_nil] at hW'
  refine (walk a0 n0 c0 i0 b0 a1 n1 c1 i1 b1 p2' x2 i2 b2 a3 n3 c3 i3 b3 (hasOps_of_laid hL)).mono fun e W' ⟨he, hg⟩ => ?_
  subst he
  exact ⟨_, rfl, law_post2 hW' rfl rfl rfl rfl rfl (by kernel_rfl) hg⟩

theorem holds : Rows.ProofVerifySaid :=
  OpenClaim.holds_of_wide 5 Tryz.f5 rfl rfl rfl rfl rfl rfl rfl ⟨rfl, rfl, rfl, rfl, rfl⟩ rfl rfl rfl rfl rfl (by kernel_rfl) Tryz.func5 (by kernel_rfl)
    (of_decide_eq_true (by kernel_rfl)) (by unfold Func.isWrapper; first | (rw [if_pos (by decide +kernel)]; kernel_rfl) | (rw [if_neg (by decide +kernel)]; exact ⟨rfl, rfl⟩))
    (fun os started H enc _ => lifted os started H enc)

theorem card_holds : Rows.ProofVerifyCardSaid :=
  Claim7.holds_tied_plain_at .later [] [.data] true Rows.proofVerifyCard.stood.harness true
    holds (fun _ h => by cases h) (by kernel_rfl) (fun _ h => by cases h) proofVerify_row_tie rfl ⟨rfl, rfl⟩ (by kernel_rfl) rfl
    (fun f fn hf hfn => by
      obtain rfl : f = 5 := Option.some.inj ((show Tryz.prog.funcNamed "treaty/treatylaw11.ProofVerify" = some 5 by kernel_rfl).symm.trans hf) |>.symm
      obtain rfl : fn = Tryz.f5 := (Option.some.inj (Tryz.func5.symm.trans hfn)).symm
      exact ⟨by kernel_rfl, fun j t ht => by
        rw [Tryz.params5] at ht
        have hm : t ∈ [22, 22, 40, 22] := by simpa using Array.mem_of_getElem? ht
        have hall : ([22, 22, 40, 22].all fun u => !Tryz.prog.wantsStandIn u) = true := by kernel_rfl
        exact (show Tryz.prog.wantsStandIn t = false by simpa using List.all_eq_true.1 hall t hm)⟩)
    (by kernel_rfl)
#print axioms card_holds
end Go.Proofs.YtpkljcgihobaiaaGreatDoor.proofVerify
