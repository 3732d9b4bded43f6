/-
  treatylaw12.DecideSound returns true for every input and leaves its arguments as they were; condition: the package-level table is as the program's text lays it (tied by the card).
-/
import Derived.Test.YtefjomofjejklaaGreatDoorCards
import Derived.Test.YtefjomofjejklaaGreatDoorTie
import Derived.Test.YtefjomofjejklaaGreatDoorDs19
import Derived.Test.YtefjomofjejklaaGreatDoorDs20
namespace Go.Proofs.YtefjomofjejklaaGreatDoor.decideSound
open Go.ChangeShapes Go.WideShapes Go.ChangeAt Go.RowKit
theorem walk {W : World} (a0 : Option Addr) (n0 c0 : Nat) (i0 : dR W a0 n0) (b0 : n0 ≤ 1000000000000000) (a1 : Option Addr) (n1 c1 : Nat) (i1 : dR W a1 n1) (b1 : n1 ≤ 1000000000000000) (a2 : Int) (w2 : (Lit.int .u8 a2).wf = true) (D3 : rT) (L3 : List Rs) (a3 : Option Addr) (n3 c3 : Nat) (i3 : iE W L3 a3 n3 c3) (_b3 : n3 ≤ 1000000000000000) (ho : dQ W) :
    Calls Tryz.prog 10 #[.slice a0 n0 c0, .slice a1 n1 c1, .int .u8 a2, .agg #[.int .i64 D3.oP, .int .i64 D3.lim, .int .i64 D3.xV, .int .i64 D3.xU, .int .i64 D3.xN, .bool D3.Bt, .slice a3 n3 c3]] W (cz (.bool true) W) := a5' a0 n0 c0 a1 n1 c1 a2 D3 L3 a3 n3 c3 W i0 b0 i1 b1 w2 i3 ho
theorem gp (os : Os) (args : Array Value) : laidMetH Tryz.prog Rows.decideSoundRow.laid ((World.doorLaid Tryz.prog 400 os).forCall (fun _ _ => 0) ⟨#[], args, []⟩).memory :=
  laidMetH_of_parts3 (fuel := 8) (laidMet_of_run' 8 (by kernel_rfl) (by kernel_rfl)) (by kernel_rfl) (by kernel_rfl)
set_option maxRecDepth 100000 in
theorem lifted (os : Os) (started : os.Started) (H : Type) (enc : TypeId × Value → H) :
    ReturnsInHanded {} Tryz.checked os 10 .any (fun w args => (Rows.decideSoundSpec.pre enc Tryz.prog Tryz.f10 [] false w args ∧ laidMetH Tryz.prog Rows.decideSoundRow.laid w) ∧ sizedMet enc Tryz.prog Tryz.f10 (OpenSpec.ofChange Rows.decideSoundSpec) false w args)
      (Rows.decideSoundSpec.post enc Tryz.prog Tryz.f10 false true false false) := by
  refine returnsInHanded_of_change_and (C := Tryz.checked) (X := fun w _ => laidMetH Tryz.prog Rows.decideSoundRow.laid w) (fun _ _ _ hh h => h.of_heap hh) own started (by kernel_rfl) Tryz.func10
    (ChangeSpec.witness_shaped (enc := enc) (C := Tryz.checked) (os := os) (X := fun w _ => laidMetH Tryz.prog Rows.decideSoundRow.laid w) false (World.doorLaid Tryz.prog 400 os) #[.slice none 0 0, .slice none 0 0, .int .u8 0, .agg #[.int .i64 0, .int .i64 0, .int .i64 0, .int .i64 0, .int .i64 0, .bool false, .slice none 0 0]] 8 rfl (World.shaped_of_RefB (by kernel_rfl) (by kernel_rfl)) (by kernel_rfl) (by kernel_rfl) (by kernel_rfl) (gp os _)) ?_
  intro W base args ds gs before hval0 hW _ hsz0 hL _
  have hval : ∀ (j : Nat) t v, Tryz.f10.params[j]? = some t → args[j]? = some v → Value.okWide Tryz.prog W .any base t v := hval0
  have hsz : (DataW.weightsEach Tryz.prog (Tryz.f10.params.toList ++ []) (ds ++ gs)).all (· ≤ reachBytes) = true := hsz0
  have hW' := hW
  obtain ⟨p, q, hA0, hV, rfl, hfz, hnd⟩ := hW
  have hA : DataW.TrodAll enc Tryz.prog W 0 (fun _ => true) true Tryz.f10.params.toList args.toList ds p := hA0
  rw [Tryz.params10] at hA hval hsz
  obtain ⟨v0, vs0, d0, ds0, p0, q0, hargs, rfl, rfl, h0, r0⟩ := trodAll_cons hA
  obtain ⟨v1, vs1, d1, ds1, p1, q1, rfl, rfl, rfl, h1, r1⟩ := trodAll_cons r0
  obtain ⟨v2, vs2, d2, ds2, p2, q2, rfl, rfl, rfl, h2, r2⟩ := trodAll_cons r1
  obtain ⟨v3, vs3, d3, ds3, p3, q3, rfl, rfl, rfl, h3, r3⟩ := trodAll_cons r2
  obtain ⟨rfl, rfl, rfl⟩ := trodAll_nil r3
  obtain rfl : args = #[v0, v1, v2, v3] := by cases args; simp_all
  obtain ⟨rfl, rfl⟩ := trodVars_none hV
  obtain ⟨a0, n0, c0, e0, i0, b0⟩ := gj (hval 0 26 v0 rfl rfl) h0 hsz (j := 0) rfl rfl
  subst e0
  obtain ⟨a1, n1, c1, e1, i1, b1⟩ := gj (hval 1 26 v1 rfl rfl) h1 hsz (j := 1) rfl rfl
  subst e1
  obtain ⟨a2, rfl, rfl, rfl, w2⟩ := open_int uBy (hval 2 5 v2 rfl rfl) h2
  obtain ⟨D3, L3, a3, n3, c3, e3, i3, b3⟩ := a55 h3 (hval 3 57 v3 rfl rfl) hsz (j := 3) rfl rfl
  subst e3
  clear hA0 hval0
  simp only [List.append_nil] at hW'
  refine (walk a0 n0 c0 i0 b0 a1 n1 c1 i1 b1 a2 w2 D3 L3 a3 n3 c3 i3 b3 (eY hL)).mono fun e W' ⟨he, hg⟩ => ?_
  subst he
  exact ⟨_, rfl, jd hW' rfl rfl rfl rfl rfl (by kernel_rfl) hg⟩
theorem holds : Rows.DecideSoundSaid :=
  OpenClaim.holds_of_wide 10 Tryz.f10 rfl rfl rfl rfl rfl rfl rfl ⟨rfl, rfl, rfl, rfl, rfl⟩ rfl rfl rfl rfl rfl (by kernel_rfl) Tryz.func10 (by kernel_rfl)
    (of_decide_eq_true (by kernel_rfl)) (by unfold Func.isWrapper; first | (rw [bM (by decide +kernel)]; kernel_rfl) | (rw [bL (by decide +kernel)]; exact ⟨rfl, rfl⟩))
    (fun os started H enc _ => lifted os started H enc)
theorem card_holds : Rows.DecideSoundCardSaid :=
  Claim7.holds_tied_plain_at .later [] [.data] true Rows.decideSoundCard.stood.harness true
    holds (fun _ h => by cases h) (by kernel_rfl) (fun _ h => by cases h) decideSound_row_tie rfl ⟨rfl, rfl⟩ (by kernel_rfl) rfl
    (fun f fn hf hfn => by
      obtain rfl : f = 10 := Option.some.inj ((show Tryz.prog.funcNamed "treaty/treatylaw12.DecideSound" = some 10 by kernel_rfl).symm.trans hf) |>.symm
      obtain rfl : fn = Tryz.f10 := (Option.some.inj (Tryz.func10.symm.trans hfn)).symm
      exact ⟨by kernel_rfl, fun j t ht => by
        rw [Tryz.params10] at ht
        have hm : t ∈ [26, 26, 5, 57] := by simpa using Array.mem_of_getElem? ht
        have hall : ([26, 26, 5, 57].all fun u => !Tryz.prog.wantsStandIn u) = true := by kernel_rfl
        exact (show Tryz.prog.wantsStandIn t = false by simpa using aP.1 hall t hm)⟩)
    (by kernel_rfl)
#print axioms card_holds
end Go.Proofs.YtefjomofjejklaaGreatDoor.decideSound
