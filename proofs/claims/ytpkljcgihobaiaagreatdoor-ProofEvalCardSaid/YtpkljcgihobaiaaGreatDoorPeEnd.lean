/-
  treatylaw11.ProofEval returns true for every input and leaves its arguments as they were; condition: the package-level table is as the program's text lays it (tied by the card).
-/
import Derived.Test.YtpkljcgihobaiaaGreatDoorDu01
import Derived.Test.YtpkljcgihobaiaaGreatDoorDu02
import Derived.Test.YtpkljcgihobaiaaGreatDoorDu03
import Derived.Test.YtpkljcgihobaiaaGreatDoorDu04
import Derived.Test.YtpkljcgihobaiaaGreatDoorDu05
import Derived.Test.YtpkljcgihobaiaaGreatDoorDu06
import Derived.Test.YtpkljcgihobaiaaGreatDoorDu07
import Derived.Test.YtpkljcgihobaiaaGreatDoorDu08
import Derived.Test.YtpkljcgihobaiaaGreatDoorDu09
import Derived.Test.YtpkljcgihobaiaaGreatDoorDu10
import Derived.Test.YtpkljcgihobaiaaGreatDoorDu11
import Derived.Test.YtpkljcgihobaiaaGreatDoorDu12
import Derived.Test.YtpkljcgihobaiaaGreatDoorDu13
import Derived.Test.YtpkljcgihobaiaaGreatDoorDu14
import Derived.Test.YtpkljcgihobaiaaGreatDoorDu15
import Derived.Test.YtpkljcgihobaiaaGreatDoorDu16
import Derived.Test.YtpkljcgihobaiaaGreatDoorDu17
import Derived.Test.YtpkljcgihobaiaaGreatDoorDu18
import Derived.Test.YtpkljcgihobaiaaGreatDoorDu19
import Derived.Test.YtpkljcgihobaiaaGreatDoorDu20
import Derived.Test.YtpkljcgihobaiaaGreatDoorDu21
import Derived.Test.YtpkljcgihobaiaaGreatDoorDu22
import Derived.Test.YtpkljcgihobaiaaGreatDoorDu23
import Derived.Test.YtpkljcgihobaiaaGreatDoorDu24
import Derived.Test.YtpkljcgihobaiaaGreatDoorDu25
import Derived.Test.YtpkljcgihobaiaaGreatDoorDu26
import Derived.Test.YtpkljcgihobaiaaGreatDoorCards
import Derived.Test.YtpkljcgihobaiaaGreatDoorTie
import Derived.Test.YtpkljcgihobaiaaGreatDoorProg
import Derived.WalkKit
import Derived.Deep.QuietTactic
import Derived.BigQuiet
import Derived.Lib.Hide
import Derived.ProofKit
import Derived.LaidMore
import Derived.OpenShut
import Derived.Deep.Fields
import Derived.Stop.Joined
import Derived.WalkMore
import Derived.Deep.LoopGhost
import Derived.IntWalk
import Derived.Carry
import Derived.ChangeSlices
import Derived.SizedLaws
import Derived.Test.YtpkljcgihobaiaaGreatDoorRows
import Derived.Test.YtpkljcgihobaiaaGreatDoorPe02
import Derived.Test.YtpkljcgihobaiaaGreatDoorPe01
import Derived.Deep.AppendLies
import Derived.Deep.RegionLaw
import Derived.RegionTactic
import Derived.Orders
import Derived.BigFrame
import Derived.Laws.BytesString
import Derived.Maps.OwnSet
import Derived.Sort.KeysCollected
import Derived.Deep.DeepCutAuto
import Derived.StillTailTactics
import Derived.Maps.AppendAt
import Derived.StringKeys
import Derived.Laws.Cover1
import Derived.Sort.Walk0
import Derived.Maps.Range
import Derived.Lib.Builder
import Derived.Outline
import Derived.Shelf.SlGeneric
import Derived.Shelf.SlIter.Nil
import Derived.Shelf.SortM.Plain
import Derived.Shelf.SortM.SortNone
import Derived.Ground.GgzProg
import Derived.Ground.SlgmProg
import Derived.SliceStrings
import Derived.SevenTiedAt
namespace Go.Proofs.YtpkljcgihobaiaaGreatDoor.proofEval
open Go.ChangeShapes Go.WideShapes Go.ChangeAt Go.RowKit

theorem walk {W : World} (s0 : List Attr) (v0 : Value) (i0 : IsSchema W s0 v0) (f0 : ∀ x ∈ s0, x.fits) (b0 : s0.length ≤ 1000000000000000) (l1 : List Cla) (a1 : Option Addr) (n1 c1 : Nat) (i1 : IsClas W l1 a1 n1 c1) (f1 : ∀ x ∈ l1, x.fit) (_b1 : n1 ≤ 1000000000000000) (e2 : Ex) (v2 : Value) (i2 : IsEx W e2 v2) (b2 : e2.fits ∧ e2.few ∧ e2.slim) (a3 : Option Addr) (n3 c3 : Nat) (i3 : IntsAt W a3 n3) (b3 : n3 ≤ 1000000000000000) (a4 : Option Addr) (n4 c4 : Nat) (i4 : IntsAt W a4 n4) (b4 : n4 ≤ 1000000000000000) (a5 : Int) (_w5 : (Lit.int .i64 a5).wf = true) (a6 : Int) (_w6 : (Lit.int .i64 a6).wf = true) (ho : HasOps W) :
    Calls Tryz.prog 7 #[v0, .slice a1 n1 c1, v2, .slice a3 n3 c3, .slice a4 n4 c4, .int .i64 a5, .int .i64 a6] W (GivesE (.bool true) W) := peval_calls s0 v0 l1 a1 n1 c1 e2 v2 a3 n3 c3 a4 n4 c4 a5 a6 W i0 f0 b0 i1 f1 i2 b2.1 b2.2.1 b2.2.2 i3 b3 i4 b4 ho

/-- The door's own heap meets the condition. -/
theorem door_met (os : Os) (args : Array Value) : laidMetH Tryz.prog Rows.proofEvalRow.laid ((World.doorLaid Tryz.prog 400 os).forCall (fun _ _ => 0) ⟨#[], args, []⟩).memory :=
  laidMetH_of_parts3 (fuel := 8) (laidMet_of_run' 8 (by kernel_rfl) (by kernel_rfl)) (by kernel_rfl) (by kernel_rfl)

set_option maxRecDepth 100000 in
theorem lifted (os : Os) (started : os.Started) (H : Type) (enc : TypeId × Value → H) :
    ReturnsInHanded {} Tryz.checked os 7 .any (fun w args => (Rows.proofEvalSpec.pre enc Tryz.prog Tryz.f7 [] false w args ∧ laidMetH Tryz.prog Rows.proofEvalRow.laid w) ∧ sizedMet enc Tryz.prog Tryz.f7 (OpenSpec.ofChange Rows.proofEvalSpec) false w args)
      (Rows.proofEvalSpec.post enc Tryz.prog Tryz.f7 false true false false) := by
  refine returnsInHanded_of_change_and (C := Tryz.checked) (X := fun w _ => laidMetH Tryz.prog Rows.proofEvalRow.laid w) (fun _ _ _ hh h => h.of_heap hh) own started (by kernel_rfl) Tryz.func7
    (ChangeSpec.witness_shaped (enc := enc) (C := Tryz.checked) (os := os) (X := fun w _ => laidMetH Tryz.prog Rows.proofEvalRow.laid w) false (World.doorLaid Tryz.prog 400 os) #[.agg #[.slice none 0 0], .slice none 0 0, .agg #[.int .i64 0, .string ⟨#[]⟩, .slice none 0 0, .int .i64 0, .int .i64 0, .slice none 0 0], .slice none 0 0, .slice none 0 0, .int .i64 0, .int .i64 0] 8 rfl (World.shaped_of_RefB (by kernel_rfl) (by kernel_rfl)) (by kernel_rfl) (by kernel_rfl) (by kernel_rfl) (door_met os _)) ?_
  intro W base args ds gs before hval0 hW _ hsz0 hL _
  have hval : ∀ (j : Nat) t v, Tryz.f7.params[j]? = some t → args[j]? = some v → Value.okWide Tryz.prog W .any base t v := hval0
  have hsz : (DataW.weightsEach Tryz.prog (Tryz.f7.params.toList ++ []) (ds ++ gs)).all (· ≤ reachBytes) = true := hsz0
  have hW' := hW
  obtain ⟨p, q, hA0, hV, rfl, hfz, hnd⟩ := hW
  have hA : DataW.TrodAll enc Tryz.prog W 0 (fun _ => true) true Tryz.f7.params.toList args.toList ds p := hA0
  rw [Tryz.params7] at hA hval hsz
  obtain ⟨v0, vs0, d0, ds0, p0, q0, hargs, rfl, rfl, h0, r0⟩ := trodAll_cons hA
  obtain ⟨v1, vs1, d1, ds1, p1, q1, rfl, rfl, rfl, h1, r1⟩ := trodAll_cons r0
  obtain ⟨v2, vs2, d2, ds2, p2, q2, rfl, rfl, rfl, h2, r2⟩ := trodAll_cons r1
  obtain ⟨v3, vs3, d3, ds3, p3, q3, rfl, rfl, rfl, h3, r3⟩ := trodAll_cons r2
  obtain ⟨v4, vs4, d4, ds4, p4, q4, rfl, rfl, rfl, h4, r4⟩ := trodAll_cons r3
  obtain ⟨v5, vs5, d5, ds5, p5, q5, rfl, rfl, rfl, h5, r5⟩ := trodAll_cons r4
  obtain ⟨v6, vs6, d6, ds6, p6, q6, rfl, rfl, rfl, h6, r6⟩ := trodAll_cons r5
  obtain ⟨rfl, rfl, rfl⟩ := trodAll_nil r6
  obtain rfl : args = #[v0, v1, v2, v3, v4, v5, v6] := by cases args; simp_all
  obtain ⟨rfl, rfl⟩ := trodVars_none hV
  obtain ⟨s0, i0, f0, b0⟩ := schema_arg h0 (hval 0 31 v0 rfl rfl) hsz (j := 0) rfl rfl
  obtain ⟨l1, a1, n1, c1, e1, i1, f1, b1⟩ := clas_arg (hval 1 32 v1 rfl rfl) h1 hsz (j := 1) rfl rfl
  subst e1
  obtain ⟨e2, i2, b2⟩ := expr_arg2 h2 (hval 2 26 v2 rfl rfl) hsz (j := 2) rfl rfl
  obtain ⟨a3, n3, c3, e3, i3, b3⟩ := ints_arg (hval 3 22 v3 rfl rfl) h3 hsz (j := 3) rfl rfl
  subst e3
  obtain ⟨a4, n4, c4, e4, i4, b4⟩ := ints_arg (hval 4 22 v4 rfl rfl) h4 hsz (j := 4) rfl rfl
  subst e4
  obtain ⟨a5, rfl, rfl, rfl, w5⟩ := open_int uI (hval 5 3 v5 rfl rfl) h5
  obtain ⟨a6, rfl, rfl, rfl, w6⟩ := open_int uI (hval 6 3 v6 rfl rfl) h6
  clear hA0 hval0
  simp only [List.append_nil] at hW'
  refine (walk s0 v0 i0 f0 b0 l1 a1 n1 c1 i1 f1 b1 e2 v2 i2 b2 a3 n3 c3 i3 b3 a4 n4 c4 i4 b4 a5 w5 a6 w6 (hasOps_of_laid hL)).mono fun e W' ⟨he, hg⟩ => ?_
  subst he
  exact ⟨_, rfl, law_post2 hW' rfl rfl rfl rfl rfl (by kernel_rfl) hg⟩

theorem holds : Rows.ProofEvalSaid :=
  OpenClaim.holds_of_wide 7 Tryz.f7 rfl rfl rfl rfl rfl rfl rfl ⟨rfl, rfl, rfl, rfl, rfl⟩ rfl rfl rfl rfl rfl (by kernel_rfl) Tryz.func7 (by kernel_rfl)
    (of_decide_eq_true (by kernel_rfl)) (by unfold Func.isWrapper; first | (rw [if_pos (by decide +kernel)]; kernel_rfl) | (rw [if_neg (by decide +kernel)]; exact ⟨rfl, rfl⟩))
    (fun os started H enc _ => lifted os started H enc)

theorem card_holds : Rows.ProofEvalCardSaid :=
  Claim7.holds_tied_plain_at .later [] [.data] true Rows.proofEvalCard.stood.harness true
    holds (fun _ h => by cases h) (by kernel_rfl) (fun _ h => by cases h) proofEval_row_tie rfl ⟨rfl, rfl⟩ (by kernel_rfl) rfl
    (fun f fn hf hfn => by
      obtain rfl : f = 7 := Option.some.inj ((show Tryz.prog.funcNamed "treaty/treatylaw11.ProofEval" = some 7 by kernel_rfl).symm.trans hf) |>.symm
      obtain rfl : fn = Tryz.f7 := (Option.some.inj (Tryz.func7.symm.trans hfn)).symm
      exact ⟨by kernel_rfl, fun j t ht => by
        rw [Tryz.params7] at ht
        have hm : t ∈ [31, 32, 26, 22, 22, 3, 3] := by simpa using Array.mem_of_getElem? ht
        have hall : ([31, 32, 26, 22, 22, 3, 3].all fun u => !Tryz.prog.wantsStandIn u) = true := by kernel_rfl
        exact (show Tryz.prog.wantsStandIn t = false by simpa using List.all_eq_true.1 hall t hm)⟩)
    (by kernel_rfl)
#print axioms card_holds
end Go.Proofs.YtpkljcgihobaiaaGreatDoor.proofEval
