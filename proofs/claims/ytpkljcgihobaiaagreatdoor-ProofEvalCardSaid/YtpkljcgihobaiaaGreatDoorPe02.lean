/-
  Texts of the claim, joined: PEval, ExArg, RowsArg, SchArg, ExArg2, ClaArg.
-/
import Derived.Test.YtpkljcgihobaiaaGreatDoorDu01
import Derived.Test.YtpkljcgihobaiaaGreatDoorDu02
import Derived.Test.YtpkljcgihobaiaaGreatDoorDu03
import Derived.Test.YtpkljcgihobaiaaGreatDoorDu04
import Derived.Test.YtpkljcgihobaiaaGreatDoorDu05
import Derived.Test.YtpkljcgihobaiaaGreatDoorDu06
import Derived.Test.YtpkljcgihobaiaaGreatDoorDu07
import Derived.Test.YtpkljcgihobaiaaGreatDoorDu08
import Derived.Test.YtpkljcgihobaiaaGreatDoorDu09
import Derived.Test.YtpkljcgihobaiaaGreatDoorDu10
import Derived.Test.YtpkljcgihobaiaaGreatDoorDu11
import Derived.Test.YtpkljcgihobaiaaGreatDoorDu12
import Derived.Test.YtpkljcgihobaiaaGreatDoorDu13
import Derived.Test.YtpkljcgihobaiaaGreatDoorDu14
import Derived.Test.YtpkljcgihobaiaaGreatDoorDu15
import Derived.Test.YtpkljcgihobaiaaGreatDoorDu16
import Derived.Test.YtpkljcgihobaiaaGreatDoorDu17
import Derived.Test.YtpkljcgihobaiaaGreatDoorDu18
import Derived.Test.YtpkljcgihobaiaaGreatDoorDu19
import Derived.Test.YtpkljcgihobaiaaGreatDoorDu20
import Derived.Test.YtpkljcgihobaiaaGreatDoorDu21
import Derived.Test.YtpkljcgihobaiaaGreatDoorDu22
import Derived.Test.YtpkljcgihobaiaaGreatDoorDu23
import Derived.Test.YtpkljcgihobaiaaGreatDoorDu24
import Derived.Test.YtpkljcgihobaiaaGreatDoorDu25
import Derived.Test.YtpkljcgihobaiaaGreatDoorDu26
import Derived.Test.YtpkljcgihobaiaaGreatDoorPe01
import Derived.Test.YtpkljcgihobaiaaGreatDoorProg
import Derived.WalkKit
import Derived.Deep.QuietTactic
import Derived.BigQuiet
import Derived.Lib.Hide
import Derived.WalkMore
import Derived.Deep.LoopGhost
import Derived.IntWalk
import Derived.Deep.AppendLies
import Derived.Deep.RegionLaw
import Derived.RegionTactic
import Derived.Orders
import Derived.BigFrame
import Derived.Laws.BytesString
import Derived.Maps.OwnSet
import Derived.Sort.KeysCollected
import Derived.Deep.DeepCutAuto
import Derived.StillTailTactics
import Derived.Maps.AppendAt
import Derived.StringKeys
import Derived.Laws.Cover1
import Derived.Sort.Walk0
import Derived.Maps.Range
import Derived.Lib.Builder
import Derived.Outline
import Derived.Shelf.SlGeneric
import Derived.Shelf.SlIter.Nil
import Derived.Shelf.SortM.Plain
import Derived.Shelf.SortM.SortNone
import Derived.Ground.GgzProg
import Derived.Ground.SlgmProg
import Derived.ProofKit
import Derived.LaidMore
import Derived.OpenShut
import Derived.Deep.Fields
import Derived.Stop.Joined
import Derived.Carry
import Derived.ChangeSlices
import Derived.SizedLaws
import Derived.SliceStrings
namespace Go.Proofs.YtpkljcgihobaiaaGreatDoor
open Go.RowKit

/-! The law ProofEval: the walk. -/
theorem intsF_of {w : World} {a : Option Addr} {n : Nat} (h : IntsAt w a n) : ∃ f, IsIntF w f a n ∧ f.length = n := by
  have key : ∀ k, k ≤ n → ∃ f : List Int, f.length = k ∧ ∀ i (hi : i < f.length), ∃ b off, a = some ⟨b, off, none⟩ ∧ w.cell? ⟨b, off + i, none⟩ = some (.int .i64 f[i]) := by
    intro k
    induction k with
    | zero => intro _; exact ⟨[], rfl, fun i hi => by simp at hi⟩
    | succ k ih =>
      intro hk
      obtain ⟨f, hl, hf⟩ := ih (by omega)
      obtain ⟨b, off, z, e, hc⟩ := h k (by omega)
      refine ⟨f ++ [z], by simp [hl], fun i hi => ?_⟩
      by_cases h2 : i < f.length
      · rw [List.getElem_append_left h2]; exact hf i h2
      · have : i = k := by simp at hi; omega
        subst this
        rw [List.getElem_append_right (by omega)]
        simp only [List.getElem_singleton]
        exact ⟨b, off, e, hc⟩
  obtain ⟨f, hl, hf⟩ := key n (Nat.le_refl _)
  exact ⟨f, ⟨hl.symm, hf⟩, hl⟩
theorem intCells_len : (f : List Int) → (f.flatMap intCells).length = f.length
  | [] => rfl
  | z :: r => by rw [List.flatMap_cons, List.length_append, intCells_len r]; simp [intCells]; omega
theorem set_ints {W : World} {base : Nat} {v : Value} {f : List Int} (h : W.ownsRow base 3 1 v f.length (f.flatMap intCells)) (h0 : 0 < f.length) : ∃ g cap, v = .slice (some ⟨g, 0, none⟩) f.length cap ∧ base ≤ g ∧ g < W.heap.size ∧ (∀ j, W.frozen? ⟨g, j, none⟩ = false) ∧ ∀ i (hi : i < f.length), W.cell? ⟨g, i, none⟩ = some (.int .i64 f[i]) ∧ ∀ z, IsIntF (W.setCell ⟨g, i, none⟩ (.int .i64 z)) (f.set i z) (some ⟨g, 0, none⟩) f.length := by
  rcases h.2 with ⟨-, h0'⟩ | ⟨g, cap, cur, rfl, hg, hb, hle, hmx, hsz, htk⟩
  · omega
  have hcell : ∀ j (hj : j < f.length), cur[j]? = some (.int .i64 f[j]) := by
    intro j hj
    have h1 : (cur.toList.take (f.length * 1))[j]? = (f.flatMap intCells)[j]? := by rw [htk]
    rw [List.getElem?_take, if_pos (by omega)] at h1
    have h2 := flatMap_at intCells 1 (fun _ => rfl) f j hj 0 (by simp [intCells])
    simp only [Nat.mul_one, Nat.add_zero] at h2
    rw [h2] at h1
    simpa [intCells] using h1
  refine ⟨g, cap, rfl, hg, blk_lt hb, fun j => blk_free hb j, fun i hi => ⟨by rw [blk_cell hb]; exact hcell i hi, fun z => ⟨by simp, fun j hj => ⟨g, 0, rfl, ?_⟩⟩⟩⟩
  rw [blk_cell (put_blk (i := i) hb (.int .i64 z)), Nat.zero_add]
  have hj' : j < f.length := by simpa using hj
  by_cases hij : i = j
  · subst hij
    have : i < cur.size := by have := hcell i hi; exact (Array.getElem?_eq_some_iff.1 this).1
    simp [this]
  · simp [hij, hcell j hj']
/-- What Eval, EvalError and Truth say of a list of facts. -/
structure Evs (s : List Attr) (l : List Cla) (e : Ex) (g : List Int) (w : World) (sv ev : Value) (la : Option Addr) (ln lc : Nat) (ga : Option Addr) (gn gc : Nat) : Prop where
  eval : ∀ W, Ext w W → Calls Tryz.prog 25 #[sv, .slice la ln lc, ev, .slice ga gn gc] W (GivesE (evalV s l e g) W)
  err : ∀ W, Ext w W → Calls Tryz.prog 14 #[sv, .slice la ln lc, ev, .slice ga gn gc] W (GivesE (.int .i64 (evalErr s l e g)) W)
  truth : evalErr s l e g = 0 → ∀ W, Ext w W → Calls Tryz.prog 19 #[sv, .slice la ln lc, ev, .slice ga gn gc] W (GivesE (.bool (evalB s l e g)) W)
theorem evs_of {s : List Attr} {l : List Cla} {e : Ex} {g : List Int} {w : World} {sv ev : Value} {la : Option Addr} {ln lc : Nat} {ga : Option Addr} {gn gc : Nat} (h : In11 w s l e g sv ev la ln lc ga gn) : Evs s l e g w sv ev la ln lc ga gn gc where
  eval W hW := eval_calls s l e g sv ev la ln lc ga gn gc W (h.ext hW)
  err W hW := (h.ext hW).evalError gc
  truth h0 W hW := by
    have := (h.ext hW).truth (evalErr_ok h0) gc
    unfold evalB; rw [if_pos h0]; exact this
theorem evalB_err {s : List Attr} {l : List Cla} {e : Ex} {g : List Int} (h : evalErr s l e g ≠ 0) : evalB s l e g = false := by unfold evalB; rw [if_neg h]
set_option maxRecDepth 100000 in
set_option maxHeartbeats 32000000 in
theorem peval_calls (s0 : List Attr) (sv : Value) (l0 : List Cla) (la0 : Option Addr) (ln0 lc0 : Nat) (e0 : Ex) (ev : Value) (fa0 : Option Addr) (fn0 fc0 : Nat) (da : Option Addr) (dn dc : Nat) (at' z : Int) (w : World)
    (hs : IsSchema w s0 sv) (hsf : ∀ x ∈ s0, x.fits) (hsl : s0.length ≤ 1000000000000000) (hl : IsClas w l0 la0 ln0 lc0) (hlf : ∀ x ∈ l0, x.fit) (he : IsEx w e0 ev) (hef : e0.fits) (hew : e0.few) (hes : e0.slim) (h1 : IntsAt w fa0 fn0) (hfn : fn0 ≤ 1000000000000000) (h2 : IntsAt w da dn) (hdn : dn ≤ 1000000000000000) (ho : HasOps w) :
    Calls Tryz.prog 7 #[sv, .slice la0 ln0 lc0, ev, .slice fa0 fn0 fc0, .slice da dn dc, .int .i64 at', .int .i64 z] w (GivesE (.bool true) w) := by
  have HO := Lib.hid ho
  have HAW := Lib.hid (fun W (hW : Ext w W) => awake11_calls W (ho.ext hW))
  obtain ⟨f0, hf0, hfl⟩ := intsF_of h1
  obtain ⟨sa, sn, sc, rfl, hsn⟩ := hs.slice
  have HSIZ := Lib.hid (fun W (hW : Ext w W) => rsize_calls e0.size e0 ev W (Nat.le_refl _) (he.ext hW))
  have HIN := Lib.hid (fun (h60 : ln0 ≤ 1000000) => (⟨hs, hsf, hsl, hl, h60, hlf, he, hew, hef, hes, hf0, hfn, ho⟩ : In11 w s0 l0 e0 f0 (.agg #[.slice sa sn sc]) ev la0 ln0 lc0 fa0 fn0))
  have HMA := Lib.hid (fun W (hW : Ext w W) => made11_calls da dn dc W (fun i hi => by obtain ⟨b, off, q, e, hc⟩ := h2 i hi; exact ⟨b, off, q, e, hW.cell hc⟩) hdn)
  have HE := Lib.hid (And.intro he (And.intro hef (And.intro hew hes)))
  have HF0 := Lib.hid hf0
  obtain ⟨aw, nw, cw, aa, na, ca, rfl, -⟩ := he.parts
  clear hs hsf hsl hl hlf he hef hew hes h1 h2 hf0 ho hsn
  unfold exV at *
  obtain ⟨wa, hwa⟩ : ∃ wa, wa = (w.alloc (.cells #[.slice sa sn sc] 31)).alloc (.cells #[.int .i64 e0.op, .string e0.name, .slice aw nw cw, .int .i64 e0.lo, .int .i64 e0.hi, .slice aa na ca] 26) := ⟨_, rfl⟩
  have hxa : Ext w wa := by rw [hwa]; exact ((Ext.refl _).alloc _).alloc _
  have hb0 : wa.heap[w.heap.size]? = some (.cells #[.slice sa sn sc] 31 (0, 0)) := by rw [hwa]; exact blk_alloc (alloc_new w _)
  have hb1 : wa.heap[w.heap.size + 1]? = some (.cells #[.int .i64 e0.op, .string e0.name, .slice aw nw cw, .int .i64 e0.lo, .int .i64 e0.hi, .slice aa na ca] 26 (0, 0)) := by rw [hwa]; exact alloc_atR (by simp)
  have HXA := Lib.hid hxa
  have HB0 := Lib.hid hb0
  have HB1 := Lib.hid hb1
  obtain ⟨d0, df⟩ := blk1 hb0
  obtain ⟨x0, x1, x2, x3, x4, x5, xf⟩ := blk6 hb1
  clear hxa hb0 hb1
  obtain ⟨b0, hb0⟩ : ∃ b0 : Nat, b0 = w.heap.size := ⟨_, rfl⟩
  by_cases g1 : 20 < sn
  · have t1 : decide ((20 : Int) < (sn : Int)) = true := decide_eq_true (by omega)
    go_enter Tryz.func7, Tryz.ntmps7
    go_upto_region 1 with fail
    rw [← hwa]
    clear hwa
    go_wp2_with fail
    refine (HAW.out wa HXA.out).mono ?_
    rintro r wz ⟨rfl, hxz⟩
    have HXZ := Lib.hid (HXA.out.trans hxz)
    clear hxz
    go_wp2_with fail
    go_ret
    exact ⟨rfl, HXZ.out⟩
  have t1 : decide ((20 : Int) < (sn : Int)) = false := decide_eq_false (by omega)
  by_cases g2 : 60 < ln0
  · have t2 : decide ((60 : Int) < (ln0 : Int)) = true := decide_eq_true (by omega)
    go_enter Tryz.func7, Tryz.ntmps7
    go_upto_region 1 with fail
    rw [← hwa]
    clear hwa
    go_wp2_with fail
    refine (HAW.out wa HXA.out).mono ?_
    rintro r wz ⟨rfl, hxz⟩
    have HXZ := Lib.hid (HXA.out.trans hxz)
    clear hxz
    go_wp2_with fail
    go_ret
    exact ⟨rfl, HXZ.out⟩
  have t2 : decide ((60 : Int) < (ln0 : Int)) = false := decide_eq_false (by omega)
  have HI := Lib.hid (HIN.out (by omega))
  clear HIN
  go_enter Tryz.func7, Tryz.ntmps7
  go_upto_region 1 with fail
  rw [← hwa]
  clear hwa
  go_wp2_with fail
  refine (HSIZ.out wa HXA.out).mono ?_
  rintro r w1 ⟨rfl, hx1⟩
  have HX1 := Lib.hid (HXA.out.trans hx1)
  have HB01 := Lib.hid (hx1.blk HB0.out)
  have HB11 := Lib.hid (hx1.blk HB1.out)
  clear hx1 HSIZ d0 df x0 x1 x2 x3 x4 x5 xf HB0 HB1 HXA
  by_cases g3 : 300 < refSize e0
  · have t3 : decide ((300 : Int) < (refSize e0 : Int)) = true := decide_eq_true (by omega)
    go_wp2_with fail
    refine (HAW.out w1 HX1.out).mono ?_
    rintro r wz ⟨rfl, hxz⟩
    have HXZ := Lib.hid (HX1.out.trans hxz)
    clear hxz
    go_wp2_with fail
    go_ret
    exact ⟨rfl, HXZ.out⟩
  have t3 : decide ((300 : Int) < (refSize e0 : Int)) = false := decide_eq_false (by omega)
  by_cases g4 : 50 < fn0
  · have t4 : decide ((50 : Int) < (fn0 : Int)) = true := decide_eq_true (by omega)
    go_wp2_with fail
    refine (HAW.out w1 HX1.out).mono ?_
    rintro r wz ⟨rfl, hxz⟩
    have HXZ := Lib.hid (HX1.out.trans hxz)
    clear hxz
    go_wp2_with fail
    go_ret
    exact ⟨rfl, HXZ.out⟩
  have t4 : decide ((50 : Int) < (fn0 : Int)) = false := decide_eq_false (by omega)
  have HEV := Lib.hid (evs_of (gc := fc0) HI.out)
  obtain ⟨d0, df⟩ := blk1 HB01.out
  obtain ⟨x0, x1, x2, x3, x4, x5, xf⟩ := blk6 HB11.out
  go_wp2_with fail
  have HV1 := Lib.hid HEV.out.eval
  have HVE := Lib.hid HEV.out.err
  have HVT := Lib.hid HEV.out.truth
  have HVB := Lib.hid (fun h => evalB_err (s := s0) (l := l0) (e := e0) (g := f0) h)
  unfold evalV at HV1
  obtain ⟨E, hE⟩ : ∃ E, E = evalErr s0 l0 e0 f0 := ⟨_, rfl⟩
  obtain ⟨B, hB⟩ : ∃ B, B = evalB s0 l0 e0 f0 := ⟨_, rfl⟩
  rw [← hE, ← hB] at HV1 HVT
  rw [← hE] at HVE
  rw [← hE, ← hB] at HVB
  clear hE hB HEV
  refine (HV1.out w1 HX1.out).mono ?_
  rintro r w2 ⟨rfl, hx2⟩
  have HX2 := Lib.hid (HX1.out.trans hx2)
  have HB02 := Lib.hid (hx2.blk HB01.out)
  have HB12 := Lib.hid (hx2.blk HB11.out)
  clear hx2 HX1 HB01 HB11 d0 df x0 x1 x2 x3 x4 x5 xf HV1
  obtain ⟨d0, df⟩ := blk1 HB02.out
  obtain ⟨x0, x1, x2, x3, x4, x5, xf⟩ := blk6 HB12.out
  go_wp2_with fail
  refine (HVE.out w2 HX2.out).mono ?_
  rintro r w3 ⟨rfl, hx3⟩
  have HX3 := Lib.hid (HX2.out.trans hx3)
  have HB03 := Lib.hid (hx3.blk HB02.out)
  have HB13 := Lib.hid (hx3.blk HB12.out)
  clear hx3 HX2 HB02 HB12 d0 df x0 x1 x2 x3 x4 x5 xf HVE
  by_cases h0 : E = 0
  case' pos =>
    have HVT1 := Lib.hid (HVT.out h0)
    subst h0
    obtain ⟨d0, df⟩ := blk1 HB03.out
    obtain ⟨x0, x1, x2, x3, x4, x5, xf⟩ := blk6 HB13.out
    clear HVB HVT
    go_wp2_with fail
    refine (HVT1.out w3 HX3.out).mono ?_
    rintro r w3 ⟨rfl, hx3⟩
    have HX3 := Lib.hid (HX3.out.trans hx3)
    have HB03 := Lib.hid (hx3.blk HB03.out)
    have HB13 := Lib.hid (hx3.blk HB13.out)
    clear hx3 d0 df x0 x1 x2 x3 x4 x5 xf HVT1
    go_upto_region 6 with fail
  case' neg =>
    have t5 : (E == 0) = false := by simp [h0]
    have hb := HVB.out h0
    subst hb
    clear HVB HVT h0
    go_upto_region 6 with fail
  all_goals
    clear HI
    go_wp2_with fail
    refine (HMA.out w3 HX3.out).mono ?_
    rintro r w4 ⟨s, l, x, f, v, bd, rfl, hiw, -, hx4⟩
    have HIW := Lib.hid (hiw.mono (mask_sub _ _))
    have HX4 := Lib.hid (HX3.out.trans hx4)
    have HB14 := Lib.hid (hx4.blk HB13.out)
    clear hiw hx4 HMA HX3 HB13 HB03
    unfold WorldV.val
    go_upto_region 7 with fail
    obtain ⟨b5, hb5⟩ : ∃ b5 : Nat, b5 = w4.heap.size := ⟨_, rfl⟩
    obtain ⟨w5, hw5⟩ : ∃ w5, w5 = w4.alloc (.cells #[.slice v.sa v.sn v.sc, .slice v.la v.ln v.lc, .int .i64 v.x.op, .string v.x.name, .slice v.x.aw v.x.nw v.x.cw, .int .i64 v.x.lo, .int .i64 v.x.hi, .slice v.x.aa v.x.na v.x.ca, .slice v.fa v.fn v.fc] 34) := ⟨_, rfl⟩
    have hx5 : Ext w4 w5 := by rw [hw5]; exact (Ext.refl _).alloc _
    have HBW := Lib.hid (show w5.heap[b5]? = some (.cells #[.slice v.sa v.sn v.sc, .slice v.la v.ln v.lc, .int .i64 v.x.op, .string v.x.name, .slice v.x.aw v.x.nw v.x.cw, .int .i64 v.x.lo, .int .i64 v.x.hi, .slice v.x.aa v.x.na v.x.ca, .slice v.fa v.fn v.fc] 34 (0, 0)) by rw [hw5, hb5]; exact alloc_new w4 _)
    rw [← hw5, ← hb5]
    clear hw5 hb5
    have HIW5 := Lib.hid (HIW.out.mono hx5.sub)
    have HX5 := Lib.hid (HX4.out.trans hx5)
    have HB15 := Lib.hid (hx5.blk HB14.out)
    clear hx5 HIW HX4 HB14
    have HO5 := Lib.hid (HO.out.ext HX5.out)
    have HE1 := Lib.hid (evs_of (gc := v.fc) (HIW5.out.own11 HO5.out))
    have HE2 := Lib.hid (evs_of (gc := v.fc) (HIW5.out.in11 HO5.out (HE.out.1.ext HX5.out) HE.out.2.2.1 HE.out.2.1 HE.out.2.2.2 HIW5.out.ints (by have := HIW5.out.fnl; omega)))
    unfold ExV.val exV at HE1
    have hok := HIW5.out.ok.err
    have H1V := Lib.hid HE1.out.eval
    have H1T := Lib.hid (HE1.out.truth hok)
    have H2V := Lib.hid HE2.out.eval
    have H2E := Lib.hid HE2.out.err
    unfold evalV at H1V H2V
    rw [hok] at H1V
    obtain ⟨B1, hB1⟩ : ∃ B, B = evalB s l x f := ⟨_, rfl⟩
    obtain ⟨B2, hB2⟩ : ∃ B, B = evalB s l e0 f := ⟨_, rfl⟩
    obtain ⟨E2, hE2⟩ : ∃ E, E = evalErr s l e0 f := ⟨_, rfl⟩
    rw [← hB1] at H1V H1T
    rw [← hB2, ← hE2] at H2V
    rw [← hE2] at H2E
    clear hok hB1 hB2 hE2 HE1 HE2
    obtain ⟨c0, c1, c2, c3, c4, c5, c6, c7, c8, cf⟩ := blk9 HBW.out
    go_wp2_with fail
    refine (H1V.out w5 (Ext.refl _)).mono ?_
    rintro r w6 ⟨rfl, hx6⟩
    have HX6 := Lib.hid hx6
    clear hx6 c0 c1 c2 c3 c4 c5 c6 c7 c8 cf
    obtain ⟨c0, c1, c2, c3, c4, c5, c6, c7, c8, cf⟩ := blk9 (HX6.out.blk HBW.out)
    obtain ⟨x0, x1, x2, x3, x4, x5, xf⟩ := blk6 (HX6.out.blk HB15.out)
    go_wp2_with fail
    refine (H2V.out w6 HX6.out).mono ?_
    rintro r w7 ⟨rfl, hx7⟩
    have HX7 := Lib.hid (HX6.out.trans hx7)
    clear hx7 c0 c1 c2 c3 c4 c5 c6 c7 c8 cf x0 x1 x2 x3 x4 x5 xf HX6
    obtain ⟨c0, c1, c2, c3, c4, c5, c6, c7, c8, cf⟩ := blk9 (HX7.out.blk HBW.out)
    have hfn5 := HIW5.out.fnl
    have HFL := Lib.hid HIW5.out.ints.1
    have hlt7 := blk_lt (HX7.out.blk HBW.out)
    go_wp2_with (at_builtin; refine wpList_append_all elemInts rfl _ _ rfl w7.heap.size _ 0 [] rfl ?o0 v.fa v.fn v.fc (f.flatMap intCells) rfl ?o1 ?o2 ?o3 ?o4 ?o5 ?o6 ?_)
    case o0 => exact World.ownsRow_lit w7 #[] 0 (Nat.le_refl _) (by simp) rfl
    case o1 => rw [HFL.out, intCells_len]; omega
    case o2 =>
      intro h
      have hflen := HFL.out
      obtain ⟨b, off, e1, -⟩ := HIW5.out.ints.2 0 (by omega)
      refine ⟨b, off, e1, fun j hj => ?_⟩
      have hj2 : j < f.length := by rw [intCells_len] at hj; exact hj
      obtain ⟨b', off', e2, hc⟩ := HIW5.out.ints.2 j hj2
      rw [e1] at e2
      simp only [Option.some.injEq, Addr.mk.injEq, and_true] at e2
      obtain ⟨rfl, rfl⟩ := e2
      have h3 := flatMap_at intCells 1 (fun _ => rfl) f j hj2 0 (by simp [intCells])
      simp only [Nat.mul_one, Nat.add_zero] at h3
      rw [(HX7.out.alloc _).cell hc]
      have h4 : (f.flatMap intCells)[j]? = some (f.flatMap intCells)[j] := List.getElem?_eq_getElem hj
      rw [← h4, h3]; simp [intCells]
    case o3 => intro u hu; simp only [List.mem_flatMap, intCells, List.mem_singleton] at hu; obtain ⟨q, -, rfl⟩ := hu; rfl
    case o4 => omega
    case o5 => omega
    case o6 => simp
    intro v8 w8 hown8 hgr8 hat8
    obtain ⟨n7, hn7⟩ : ∃ n7 : Nat, n7 = w7.heap.size := ⟨_, rfl⟩
    have hx8 : Ext w7 w8 := Ext.grown ((Ext.refl w7).alloc (.cells #[] 3)) hgr8 (fun k hk => by simp only [Value.ownBlock] at hk; injection hk with hk; omega)
    have HX8 := Lib.hid (HX7.out.trans hx8)
    have hown : w8.ownsRow n7 3 1 v8 f.length (f.flatMap intCells) := by
      have h := hown8
      rw [HFL.out, ← hn7] at h
      exact h
    have hpos : 0 < f.length := by
      have h1 := factsAll_len HIW5.out.facts
      have h2 := (schema_attrs (schema_zero HIW5.out.mem)).1
      omega
    obtain ⟨g, cap, rfl, hg1, hg2, hgf, hgs⟩ := set_ints hown hpos
    have HGS := Lib.hid hgs
    have hfl := HFL.out
    obtain ⟨k8, hk8⟩ : ∃ k8 : Nat, k8 = f.length := ⟨_, rfl⟩
    rw [← hk8]
    rw [← hk8] at hpos
    have HK8 := Lib.hid hk8
    have hk9 : k8 ≤ 1000 := by omega
    have h57 := HX7.out.size
    clear hk8 hfl hown hown8 hgr8 hat8 hgs hx8 hfn5 c0 c1 c2 c3 c4 c5 c6 c7 c8 cf
    go_wp2_with fail
    refine (within_calls at' (k8 : Int) w8 (by omega) (by omega)).mono ?_
    rintro r wr ⟨q, rfl, hq0, hq1, rfl⟩
    obtain ⟨i, rfl⟩ : ∃ i : Nat, q = (i : Int) := ⟨q.toNat, by omega⟩
    have hik : i < k8 := by omega
    obtain ⟨hci, hseti⟩ := HGS.out i (by have := HK8.out; omega)
    have HIG := Lib.hid (hseti z)
    have HXS := Lib.hid (HX8.out.setAbove (p := ⟨g, i, none⟩) (by show w5.heap.size ≤ g; omega) (.int .i64 z))
    clear hseti
    go_upto_region 11 with fail
    obtain ⟨w9, hw9⟩ : ∃ w9, w9 = w8.setCell ⟨g, i, none⟩ (.int .i64 z) := ⟨_, rfl⟩
    rw [← hw9] at HIG HXS ⊢
    clear hw9 hci hgf hg1 hg2 h57 hlt7 hn7 hq0 hq1
    have HIW9 := Lib.hid (HIW5.out.mono HXS.out.sub)
    have HO9 := Lib.hid (HO5.out.ext HXS.out)
    have HE3 := Lib.hid (evs_of (gc := cap) (HIW9.out.in11 HO9.out HIW9.out.ex HIW9.out.okay.few HIW9.out.okay.fits (slim_of_size _ (by have := HIW9.out.okay.size; simp [bndS] at this; omega)) HIG.out (by have := HK8.out; omega)))
    unfold ExV.val exV at HE3
    have H3V := Lib.hid HE3.out.eval
    have H3E := Lib.hid HE3.out.err
    unfold evalV at H3V
    rw [← HK8.out] at H3V H3E
    obtain ⟨B3, hB3⟩ : ∃ B, B = evalB s l x (f.set i z) := ⟨_, rfl⟩
    obtain ⟨E3, hE3⟩ : ∃ E, E = evalErr s l x (f.set i z) := ⟨_, rfl⟩
    rw [← hB3, ← hE3] at H3V
    rw [← hE3] at H3E
    clear hB3 hE3 HE3
    have HAW9 := Lib.hid (fun W (hW : Ext w9 W) => HAW.out W (HX5.out.trans (HXS.out.trans hW)))
    have HB9 := Lib.hid (HXS.out.blk HBW.out)
    have HB19 := Lib.hid (HXS.out.blk HB15.out)
    have H1T9 := Lib.hid (fun W (hW : Ext w9 W) => H1T.out W (HXS.out.trans hW))
    have H2E9 := Lib.hid (fun W (hW : Ext w9 W) => H2E.out W (HXS.out.trans hW))
    obtain ⟨c0, c1, c2, c3, c4, c5, c6, c7, c8, cf⟩ := blk9 HB9.out
    go_wp2_with fail
    refine (H3V.out w9 (Ext.refl _)).mono ?_
    rintro r wA ⟨rfl, hxA⟩
    have HXA := Lib.hid hxA
    clear hxA c0 c1 c2 c3 c4 c5 c6 c7 c8 cf
    obtain ⟨c0, c1, c2, c3, c4, c5, c6, c7, c8, cf⟩ := blk9 (HXA.out.blk HB9.out)
    go_wp2_with fail
    refine (H1T9.out wA HXA.out).mono ?_
    rintro r wB ⟨rfl, hxB⟩
    have HXB := Lib.hid (HXA.out.trans hxB)
    clear hxB c0 c1 c2 c3 c4 c5 c6 c7 c8 cf
    obtain ⟨c0, c1, c2, c3, c4, c5, c6, c7, c8, cf⟩ := blk9 (HXB.out.blk HB9.out)
    obtain ⟨x0, x1, x2, x3, x4, x5, xf⟩ := blk6 (HXB.out.blk HB19.out)
    go_wp2_with fail
    refine (H2E9.out wB HXB.out).mono ?_
    rintro r wC ⟨rfl, hxC⟩
    have HXC := Lib.hid (HXB.out.trans hxC)
    clear hxC c0 c1 c2 c3 c4 c5 c6 c7 c8 cf x0 x1 x2 x3 x4 x5 xf
    obtain ⟨c0, c1, c2, c3, c4, c5, c6, c7, c8, cf⟩ := blk9 (HXC.out.blk HB9.out)
    go_wp2_with fail
    refine (H3E.out wC HXC.out).mono ?_
    rintro r wD ⟨rfl, hxD⟩
    have HXD := Lib.hid (HXC.out.trans hxD)
    clear hxD c0 c1 c2 c3 c4 c5 c6 c7 c8 cf
    go_wp2_with fail
    refine (HAW9.out wD HXD.out).mono ?_
    rintro r wE ⟨rfl, hxE⟩
    have HXE := Lib.hid (HX5.out.trans (HXS.out.trans (HXD.out.trans hxE)))
    clear hxE
    go_wp2_with fail
    go_ret
    exact ⟨rfl, HXE.out⟩
end Go.Proofs.YtpkljcgihobaiaaGreatDoor

namespace Go.Proofs.YtpkljcgihobaiaaGreatDoor
open Go.ChangeShapes Go.WideShapes Go.ChangeAt Go.RowKit

theorem exFields_are : (Tryz.prog.underlying 26).bind (fun u => match u with | .struct fs => some (fs.toList.map (fun f => (f.type, f.offset))) | _ => none) = some [(3, 0), (9, 1), (23, 2), (3, 3), (3, 4), (24, 5)] := by kernel_rfl
theorem uEx : ∃ fs : Array Field, Tryz.prog.underlying 26 = some (.struct fs) ∧ fs.toList.map (fun f => (f.type, f.offset)) = [(3, 0), (9, 1), (23, 2), (3, 3), (3, 4), (24, 5)] := by
  have h := exFields_are
  generalize Tryz.prog.underlying 26 = U at *
  match U, h with
  | some (.struct fs), h => exact ⟨fs, rfl, by simpa using h⟩
theorem cEx : Tryz.prog.cellsOf 26 = 6 := by kernel_rfl
theorem cSs : Tryz.prog.cellsOf 23 = 1 := by kernel_rfl
theorem cExs : Tryz.prog.cellsOf 24 = 1 := by kernel_rfl
theorem uSs : Tryz.prog.underlying 23 = some (.slice 9) := by kernel_rfl
theorem uExs : Tryz.prog.underlying 24 = some (.slice 26) := by kernel_rfl
theorem bStr : Tryz.prog.bytesOf 9 = 16 := by kernel_rfl
theorem list6 {α : Type} (l : List α) (h : l.length = 6) : ∃ a b c d e f, l = [a, b, c, d, e, f] := by
  rcases l with _ | ⟨a, _ | ⟨b, _ | ⟨c, _ | ⟨d, _ | ⟨e, _ | ⟨f, _ | ⟨g, r⟩⟩⟩⟩⟩⟩⟩ <;> simp at h
  exact ⟨a, b, c, d, e, f, rfl⟩
theorem spot_none {W : World} {a : Addr} {v : Value} (h : W.cell? a = some v) : a.spot = none := by
  cases hs : a.spot with
  | none => rfl
  | some x =>
    simp only [World.cell?, hs] at h
    split at h <;> simp at h
theorem add_plain (b off i : Nat) : (⟨b, off, none⟩ : Addr).add i = ⟨b, off + i, none⟩ := by
  unfold Addr.add
  split <;> simp_all
theorem fits_mk' {e : Ex} (h1 : e.name.size ≤ 1000000000000000) (h2 : ∀ x ∈ e.words, x.size ≤ 1000000000000000) (h3 : ∀ x ∈ e.args, x.fits) : e.fits := by
  cases e with
  | mk op name words lo hi args =>
    unfold Ex.fits
    refine ⟨h1, h2, ?_⟩
    simp only [Ex.args] at h3
    clear h1 h2
    induction args with
    | nil => unfold fitsAll; trivial
    | cons a r ih => unfold fitsAll; exact ⟨h3 a (by simp), ih (fun x hx => h3 x (List.mem_cons_of_mem _ hx))⟩
theorem few_mk' {e : Ex} (h2 : e.words.length ≤ 1000000000000000) (h3 : ∀ x ∈ e.args, x.few) : e.few := by
  cases e with
  | mk op name words lo hi args =>
    unfold Ex.few
    refine ⟨h2, ?_⟩
    simp only [Ex.args] at h3
    clear h2
    induction args with
    | nil => unfold fewAll; trivial
    | cons a r ih => unfold fewAll; exact ⟨h3 a (by simp), ih (fun x hx => h3 x (List.mem_cons_of_mem _ hx))⟩
theorem list_of {α : Type} {Q : Nat → α → Prop} : (n : Nat) → (∀ i, i < n → ∃ x, Q i x) → ∃ l : List α, l.length = n ∧ ∀ i (h : i < l.length), Q i l[i]
  | 0, _ => ⟨[], rfl, fun i h => by simp at h⟩
  | n + 1, h => by
    obtain ⟨l, h1, h2⟩ := list_of n (fun i hi => h i (by omega))
    obtain ⟨x, hx⟩ := h n (by omega)
    refine ⟨l ++ [x], by simp [h1], fun i hi => ?_⟩
    by_cases e : i < l.length
    · rw [List.getElem_append_left e]; exact h2 i e
    · have : i = n := by simp at hi; omega
      subst this
      rw [List.getElem_append_right (by omega)]
      simpa using hx
/-- The words of an expression that came in. -/
theorem strs_arg {H : Type} {enc : TypeId × Value → H} {W : World} {n : Nat} {c : Value} {y : DataW H × List MemPlace} (h : DataW.trod enc Tryz.prog W 0 (fun _ => true) true n 23 [c] = some y) (hw : (y.1.weights Tryz.prog 23).all (· ≤ reachBytes) = true) :
    ∃ (l : List ByteArray) (a : Option Addr) (m k : Nat), c = .slice a m k ∧ IsStrs W l a m k ∧ (∀ x ∈ l, x.size ≤ 1000000000000000) ∧ l.length ≤ 1000000000000000 := by
  have hr := reachBytes_lt
  rcases open_strings uSs uS cS h with ⟨hc, _⟩ | ⟨a, len, cap, ss, hc, _, hl, hm, hz, hx, hcell, hsz⟩
  · simp at hc
    exact ⟨[], none, 0, 0, hc, ⟨rfl, by omega, Or.inl ⟨rfl, rfl⟩, fun i hi => by simp at hi⟩, by simp, by simp⟩
  · simp at hc
    subst hc
    simp only [if_true] at hz
    subst hx
    have hw' := hw
    simp only [DataW.weights, uSs, List.all_cons, Bool.and_eq_true, decide_eq_true_eq, List.all_append, bStr] at hw'
    obtain ⟨hw1, hw2, _⟩ := hw'
    have hlen : (strs (H := H) (ss.take len)).length = len := by simp [strs]; omega
    have hdrop : (strs (H := H) (ss.drop len)).length = cap - len := by simp [strs]; omega
    refine ⟨ss.take len, some a, len, cap, rfl, ⟨by simp; omega, hl, ?_, fun i hi => ?_⟩, fun x hx => ?_, by simp; omega⟩
    · by_cases h0 : cap = 0
      · exact Or.inl ⟨h0, h0⟩
      · have h1 := hcell 0 (by omega)
        rw [show a.add 0 = a by simp [Addr.add]] at h1
        have := spot_none h1
        obtain ⟨b, off, sp⟩ := a
        simp only at this
        subst this
        exact Or.inr ⟨b, off, rfl⟩
    · have hi' : i < len := by simp at hi; omega
      have h1 := hcell 0 (by omega)
      rw [show a.add 0 = a by simp [Addr.add]] at h1
      have hsp := spot_none h1
      obtain ⟨b, off, sp⟩ := a
      simp only at hsp
      subst hsp
      have h2 := hcell i (by omega)
      rw [add_plain] at h2
      refine ⟨b, off, rfl, ?_⟩
      rw [h2]
      simp [List.getD, show i < ss.length by omega]
    · have hmem : ∀ (l : List ByteArray), (DataW.weightsAll Tryz.prog 9 (strs (H := H) l)).all (· ≤ reachBytes) = true → ∀ x ∈ l, x.size ≤ reachBytes := by
        intro l
        induction l with
        | nil => intro _ x hx; simp at hx
        | cons y r ih =>
          intro hall x hx
          simp only [strs, List.map_cons, DataW.weightsAll, List.all_append, Bool.and_eq_true] at hall
          rcases List.mem_cons.1 hx with rfl | hx
          · have := hall.1
            simp [DataW.weights] at this
            exact this
          · exact ih hall.2 x hx
      have := hmem _ hw2 x hx
      omega
end Go.Proofs.YtpkljcgihobaiaaGreatDoor

namespace Go.Proofs.YtpkljcgihobaiaaGreatDoor
open Go.ChangeShapes Go.WideShapes Go.ChangeAt Go.RowKit

theorem weights_each {H : Type} {tE : TypeId} : ∀ (l : List (DataW H × List MemPlace)), (DataW.weightsAll Tryz.prog tE (l.map (·.1))).all (· ≤ reachBytes) = true → ∀ y ∈ l, (y.1.weights Tryz.prog tE).all (· ≤ reachBytes) = true := by
  intro l
  induction l with
  | nil => intro _ y hy; simp at hy
  | cons z r ih2 =>
    intro h1 y hy
    simp only [List.map_cons, DataW.weightsAll, List.all_append, Bool.and_eq_true] at h1
    rcases List.mem_cons.1 hy with rfl | hy
    · exact h1.1
    · exact ih2 h1.2 y hy
/-- A slice of rows that came in: each row is read by el. -/
theorem rows_arg {α : Type} {H : Type} {enc : TypeId × Value → H} {W : World} {tS tE : TypeId} {m : Nat} (f : α → List Value) (hf : ∀ y, (f y).length = m) (hm0 : 0 < m) (uSl : Tryz.prog.underlying tS = some (.slice tE)) (cE : Tryz.prog.cellsOf tE = m) {B : Nat} (bE : Tryz.prog.bytesOf tE = B) (hB : 0 < B) {Q : α → Prop} {fuel : Nat}
    (el : ∀ k, k < fuel → ∀ (cs : List Value) (x : DataW H × List MemPlace), DataW.trod enc Tryz.prog W 0 (fun _ => true) true k tE cs = some x → (x.1.weights Tryz.prog tE).all (· ≤ reachBytes) = true → ∃ y, cs = f y ∧ Q y)
    {c : Value} {y : DataW H × List MemPlace} (h : DataW.trod enc Tryz.prog W 0 (fun _ => true) true fuel tS [c] = some y) (hw : (y.1.weights Tryz.prog tS).all (· ≤ reachBytes) = true) :
    ∃ ys a n k, c = .slice a n k ∧ IsRows W m f ys a n k ∧ (∀ z ∈ ys, Q z) ∧ n ≤ 1000000000000000 := by
  have hr := reachBytes_lt
  rcases DataW.trod_slice uSl h with ⟨hc5, _⟩ | ⟨a, len, cap, elems, rest, k, hk, hc5, hx5, _, hl, hm, hel, hev, hsp, _⟩
  · simp only [List.cons.injEq, and_true] at hc5
    subst hc5
    exact ⟨[], none, 0, 0, rfl, ⟨rfl, Nat.le_refl 0, Or.inl ⟨rfl, rfl⟩, fun i hi => by simp at hi⟩, by simp, by omega⟩
  · simp only [List.cons.injEq, and_true] at hc5
    subst hc5
    rw [hx5] at hw
    simp only [DataW.weights, uSl, List.all_cons, List.all_append, Bool.and_eq_true, decide_eq_true_eq, bE] at hw
    obtain ⟨w5, w6, _⟩ := hw
    have each : ∀ i, i < len → ∃ t : α, (∀ j, j < m → W.cell? ((a.add (i * m)).add j) = (f t)[j]?) ∧ Q t := by
      intro i hi
      have h1 := hev i hi
      rw [List.getElem?_eq_getElem (by omega), cE, Option.bind_eq_some_iff] at h1
      obtain ⟨cs', h2, h3⟩ := h1
      obtain ⟨t, h4, h5⟩ := el k (by omega) cs' _ h3 (weights_each elems w6 _ (List.getElem_mem _))
      subst h4
      exact ⟨t, fun j hj => (World.cells?_some h2).2.2 j hj, h5⟩
    have hok : OkAddr (some a) cap := by
      by_cases h0 : cap = 0
      · exact Or.inl ⟨h0, h0⟩
      · have hcell : ∃ v, W.cell? a = some v := by
          by_cases h1 : 0 < len
          · obtain ⟨t, h2, _⟩ := each 0 h1
            have := h2 0 hm0
            rw [show (a.add (0 * m)).add 0 = a by simp [Addr.add]] at this
            exact ⟨_, by rw [this, List.getElem?_eq_getElem (by rw [hf]; exact hm0)]⟩
          · obtain ⟨h3, h4⟩ := hsp rfl
            have h5 := h4 0 (by omega)
            rw [List.getElem?_eq_getElem (by omega), cE, Option.bind_eq_some_iff] at h5
            obtain ⟨cs', h6, _⟩ := h5
            obtain ⟨_, h8, h7⟩ := World.cells?_some h6
            have h9 := h7 0 hm0
            rw [show (a.add ((len + 0) * m)).add 0 = a by simp [Addr.add, show len = 0 by omega]] at h9
            exact ⟨cs'[0]'(by omega), by rw [h9, List.getElem?_eq_getElem (by omega)]⟩
        obtain ⟨v, hv⟩ := hcell
        have := spot_none hv
        obtain ⟨b, off, sp⟩ := a
        simp only at this
        subst this
        exact Or.inr ⟨b, off, rfl⟩
    obtain ⟨l, hl1, hl2⟩ := list_of len each
    refine ⟨l, some a, len, cap, rfl, ⟨hl1.symm, hl, hok, fun i hi => ?_⟩, fun t ht => ?_, ?_⟩
    · have h2 := (hl2 0 (by omega)).1 0 hm0
      rw [show (a.add (0 * m)).add 0 = a by simp [Addr.add]] at h2
      have hsp2 := spot_none (v := (f l[0])[0]'(by rw [hf]; exact hm0)) (by rw [h2]; exact List.getElem?_eq_getElem _)
      obtain ⟨b, off, sp⟩ := a
      simp only at hsp2
      subst hsp2
      refine ⟨b, off, rfl, fun j hj => ?_⟩
      have := (hl2 i hi).1 j (by rw [hf] at hj; exact hj)
      rw [add_plain, add_plain, List.getElem?_eq_getElem hj] at this
      exact this
    · obtain ⟨i, hi, rfl⟩ := List.getElem_of_mem ht
      exact (hl2 i hi).2
    · have e1 : (elems.map (·.1)).length = len := by simp; omega
      have e2 : (elems.map (·.1)).length ≤ ((elems.map (·.1)).length + (rest.map (·.1)).length) * B := Nat.le_trans (Nat.le_add_right _ _) (Nat.le_mul_of_pos_right _ hB)
      omega
end Go.Proofs.YtpkljcgihobaiaaGreatDoor

namespace Go.Proofs.YtpkljcgihobaiaaGreatDoor
open Go.ChangeShapes Go.WideShapes Go.ChangeAt Go.RowKit

/-! Arguments of type api.Schema. -/
theorem attrFields_are : (Tryz.prog.underlying 85).bind (fun u => match u with | .struct fs => some (fs.toList.map (fun f => (f.type, f.offset))) | _ => none) = some [(9, 0), (3, 1), (23, 2), (3, 3), (3, 4)] := by kernel_rfl
theorem uAttr : ∃ fs : Array Field, Tryz.prog.underlying 85 = some (.struct fs) ∧ fs.toList.map (fun f => (f.type, f.offset)) = [(9, 0), (3, 1), (23, 2), (3, 3), (3, 4)] := by
  have h := attrFields_are
  generalize Tryz.prog.underlying 85 = U at *
  match U, h with
  | some (.struct fs), h => exact ⟨fs, rfl, by simpa using h⟩
theorem schFields_are : (Tryz.prog.underlying 31).bind (fun u => match u with | .struct fs => some (fs.toList.map (fun f => (f.type, f.offset))) | _ => none) = some [(29, 0)] := by kernel_rfl
theorem uSch : ∃ fs : Array Field, Tryz.prog.underlying 31 = some (.struct fs) ∧ fs.toList.map (fun f => (f.type, f.offset)) = [(29, 0)] := by
  have h := schFields_are
  generalize Tryz.prog.underlying 31 = U at *
  match U, h with
  | some (.struct fs), h => exact ⟨fs, rfl, by simpa using h⟩
theorem cAttr : Tryz.prog.cellsOf 85 = 5 := by kernel_rfl
theorem cSch : Tryz.prog.cellsOf 31 = 1 := by kernel_rfl
theorem cAttrs : Tryz.prog.cellsOf 29 = 1 := by kernel_rfl
theorem uAttrs : Tryz.prog.underlying 29 = some (.slice 85) := by kernel_rfl
theorem bAttr : Tryz.prog.bytesOf 85 = 64 := by kernel_rfl
/-- An attribute that came in. -/
theorem attr_arg {H : Type} {enc : TypeId × Value → H} {W : World} (fuel : Nat) (cs : List Value) (x : DataW H × List MemPlace) (h : DataW.trod enc Tryz.prog W 0 (fun _ => true) true fuel 85 cs = some x) (hw : (x.1.weights Tryz.prog 85).all (· ≤ reachBytes) = true) :
    ∃ v : AttrV, cs = v.cells ∧ (IsStrs W v.x.words v.a v.n v.c ∧ v.x.fits) := by
  obtain ⟨fs, uE, are⟩ := uAttr
  obtain ⟨xs, n, rfl, rfl, hlen, hxl, hf⟩ := DataW.trod_struct uE h
  have e6 : fs.size = 5 := by have := congrArg List.length are; simpa using this
  rw [e6] at hxl
  rw [cAttr] at hlen
  obtain ⟨c0, c1, c2, c3, c4, rfl⟩ := list5 cs hlen
  obtain ⟨x0, x1, x2, x3, x4, rfl⟩ := list5 xs hxl
  obtain ⟨f0, g0, t0, o0⟩ := op_field 0 _ _ (by rw [are]; rfl)
  obtain ⟨f1, g1, t1, o1⟩ := op_field 1 _ _ (by rw [are]; rfl)
  obtain ⟨f2, g2, t2, o2⟩ := op_field 2 _ _ (by rw [are]; rfl)
  obtain ⟨f3, g3, t3, o3⟩ := op_field 3 _ _ (by rw [are]; rfl)
  obtain ⟨f4, g4, t4, o4⟩ := op_field 4 _ _ (by rw [are]; rfl)
  have r0 := hf 0 f0 g0
  have r1 := hf 1 f1 g1
  have r2 := hf 2 f2 g2
  have r3 := hf 3 f3 g3
  have r4 := hf 4 f4 g4
  rw [t0, o0, cS] at r0
  rw [t1, o1, cI] at r1
  rw [t2, o2, cSs] at r2
  rw [t3, o3, cI] at r3
  rw [t4, o4, cI] at r4
  simp only [List.drop_zero, List.drop_succ_cons, List.take_succ_cons, List.take_zero, List.getElem?_cons_zero, List.getElem?_cons_succ] at r0 r1 r2 r3 r4
  have hty : fs.toList.map (·.type) = [9, 3, 23, 3, 3] := by
    have := congrArg (List.map Prod.fst) are
    rw [List.map_map] at this
    exact this
  simp only [DataW.weights, uE, hty, List.map_cons, List.map_nil, DataW.weightsEach, List.all_append, Bool.and_eq_true] at hw
  obtain ⟨w0, _, w2, _⟩ := hw
  obtain ⟨s, a0, b0, _⟩ := DataW.trod_string uS r0
  obtain ⟨kind, a1, _, _⟩ := DataW.trod_int uI r1
  obtain ⟨lo, a3, _, _⟩ := DataW.trod_int uI r3
  obtain ⟨hi, a4, _, _⟩ := DataW.trod_int uI r4
  simp only [List.cons.injEq, and_true] at a0 a1 a3 a4
  subst a0 a1 a3 a4
  have hr := reachBytes_lt
  have hss : s.size ≤ 1000000000000000 := by
    rw [b0] at w0
    simp [DataW.weights] at w0
    omega
  obtain ⟨words, aw, nw, cw, rfl, hws, hwz, hwl⟩ := strs_arg r2 w2
  exact ⟨⟨⟨s, kind, words, lo, hi⟩, aw, nw, cw⟩, rfl, hws, hss, hwl, hwz⟩
theorem isSchema_rows {W : World} {avs : List AttrV} {a : Option Addr} {n c : Nat} (h : IsRows W 5 AttrV.cells avs a n c) (hs : ∀ v ∈ avs, IsStrs W v.x.words v.a v.n v.c) : IsSchema W (avs.map (·.x)) (.agg #[.slice a n c]) := by
  refine ⟨a, n, c, rfl, by simp [h.1], h.2.1, h.2.2.1, fun i hi => ?_⟩
  have hi' : i < avs.length := by simpa using hi
  obtain ⟨b, off, e, hc⟩ := h.2.2.2 i hi'
  refine ⟨b, off, e, ?_⟩
  have hl : (avs[i].cells).length = 5 := rfl
  simp only [List.getElem_map]
  exact ⟨avs[i].a, avs[i].n, avs[i].c, hc 0 (by omega), hc 1 (by omega), hc 2 (by omega), hc 3 (by omega), hc 4 (by omega), hs _ (List.getElem_mem hi')⟩
set_option maxRecDepth 100000 in
/-- An argument of type Schema. -/
theorem schema_arg {H : Type} {enc : TypeId × Value → H} {W : World} {v : Value} {d : DataW H} {p : List MemPlace} {ts : List TypeId} {ds : List (DataW H)} {j : Nat} (h : DataW.Trod enc Tryz.prog W 0 (fun _ => true) true 31 v d p) {base : Nat} (hval : Value.okWide Tryz.prog W .any base 31 v)
    (hs : (DataW.weightsEach Tryz.prog ts ds).all (· ≤ reachBytes) = true) (ht : ts[j]? = some 31) (hd : ds[j]? = some d) : ∃ l : List Attr, IsSchema W l v ∧ (∀ x ∈ l, x.fits) ∧ l.length ≤ 1000000000000000 := by
  have hw : (d.weights Tryz.prog 31).all (· ≤ reachBytes) = true := by
    rw [List.all_eq_true]
    intro n hn
    exact List.all_eq_true.1 hs n (DataW.weights_mem_each ht hd n hn)
  obtain ⟨fs, uE, are⟩ := uSch
  obtain ⟨cs0, rfl, _⟩ := okWide_struct uE hval
  obtain ⟨fuel, hf⟩ := h
  simp only [Value.cells] at hf
  generalize hcs : cs0.toList = cs at hf
  obtain rfl : cs0 = cs.toArray := by rw [← hcs]
  obtain ⟨xs, n, rfl, hx, hlen, hxl, hff⟩ := DataW.trod_struct uE hf
  have e1 : fs.size = 1 := by have := congrArg List.length are; simpa using this
  rw [e1] at hxl
  rw [cSch] at hlen
  obtain ⟨c0, rfl⟩ : ∃ c, cs = [c] := by
    match cs, hlen with
    | [c], _ => exact ⟨c, rfl⟩
  obtain ⟨x0, rfl⟩ : ∃ c, xs = [c] := by
    match xs, hxl with
    | [c], _ => exact ⟨c, rfl⟩
  obtain ⟨f0, g0, t0, o0⟩ := op_field 0 _ _ (by rw [are]; rfl)
  have r0 := hff 0 f0 g0
  rw [t0, o0, cAttrs] at r0
  simp only [List.drop_zero, List.take_succ_cons, List.take_zero, List.getElem?_cons_zero] at r0
  have hty : fs.toList.map (·.type) = [29] := by
    have := congrArg (List.map Prod.fst) are
    rw [List.map_map] at this
    exact this
  have hd' : d = .agg [x0.1] := (Prod.mk.inj hx).1
  rw [hd'] at hw
  simp only [DataW.weights, uE, hty, DataW.weightsEach, List.all_append, Bool.and_eq_true] at hw
  obtain ⟨avs, a, n', c, rfl, h1, h2, h3⟩ := rows_arg AttrV.cells (fun _ => rfl) (by omega) uAttrs cAttr bAttr (by omega) (fun k _ cs x g1 g2 => attr_arg k cs x g1 g2) r0 hw.1
  refine ⟨avs.map (·.x), isSchema_rows h1 fun v hv => (h2 v hv).1, fun x hx => ?_, by simp; rw [← h1.1]; exact h3⟩
  obtain ⟨v, hv, rfl⟩ := List.mem_map.1 hx
  exact (h2 v hv).2
end Go.Proofs.YtpkljcgihobaiaaGreatDoor

namespace Go.Proofs.YtpkljcgihobaiaaGreatDoor
open Go.ChangeShapes Go.WideShapes Go.ChangeAt Go.RowKit

/-! An argument of type Expr, with bounds on the numbers of arguments. -/
theorem bEx : Tryz.prog.bytesOf 26 = 88 := by kernel_rfl
theorem ex_arg2 {H : Type} {enc : TypeId × Value → H} {W : World} : ∀ (fuel : Nat) (cs : List Value) (x : DataW H × List MemPlace), DataW.trod enc Tryz.prog W 0 (fun _ => true) true fuel 26 cs = some x → (x.1.weights Tryz.prog 26).all (· ≤ reachBytes) = true →
    ∃ (e : Ex) (v : ExV), cs = v.cells ∧ IsEx W e v.val ∧ e.fits ∧ e.few ∧ e.slim := by
  intro fuel
  induction fuel using Nat.strongRecOn with
  | _ fuel ih =>
    intro cs x h hw
    obtain ⟨fs, uE, are⟩ := uEx
    obtain ⟨xs, n, rfl, rfl, hlen, hxl, hf⟩ := DataW.trod_struct uE h
    have e6 : fs.size = 6 := by have := congrArg List.length are; simpa using this
    rw [e6] at hxl
    rw [cEx] at hlen
    obtain ⟨c0, c1, c2, c3, c4, c5, rfl⟩ := list6 cs hlen
    obtain ⟨x0, x1, x2, x3, x4, x5, rfl⟩ := list6 xs hxl
    obtain ⟨f0, g0, t0, o0⟩ := op_field 0 _ _ (by rw [are]; rfl)
    obtain ⟨f1, g1, t1, o1⟩ := op_field 1 _ _ (by rw [are]; rfl)
    obtain ⟨f2, g2, t2, o2⟩ := op_field 2 _ _ (by rw [are]; rfl)
    obtain ⟨f3, g3, t3, o3⟩ := op_field 3 _ _ (by rw [are]; rfl)
    obtain ⟨f4, g4, t4, o4⟩ := op_field 4 _ _ (by rw [are]; rfl)
    obtain ⟨f5, g5, t5, o5⟩ := op_field 5 _ _ (by rw [are]; rfl)
    have r0 := hf 0 f0 g0
    have r1 := hf 1 f1 g1
    have r2 := hf 2 f2 g2
    have r3 := hf 3 f3 g3
    have r4 := hf 4 f4 g4
    have r5 := hf 5 f5 g5
    rw [t0, o0, cI] at r0
    rw [t1, o1, cS] at r1
    rw [t2, o2, cSs] at r2
    rw [t3, o3, cI] at r3
    rw [t4, o4, cI] at r4
    rw [t5, o5, cExs] at r5
    simp only [List.drop_zero, List.drop_succ_cons, List.take_succ_cons, List.take_zero, List.getElem?_cons_zero, List.getElem?_cons_succ] at r0 r1 r2 r3 r4 r5
    have hty : fs.toList.map (·.type) = [3, 9, 23, 3, 3, 24] := by
      have := congrArg (List.map Prod.fst) are
      rw [List.map_map] at this
      exact this
    simp only [DataW.weights, uE, hty, List.map_cons, List.map_nil, DataW.weightsEach, List.all_append, Bool.and_eq_true] at hw
    obtain ⟨_, w1, w2, _, _, w5, _⟩ := hw
    obtain ⟨op, a0, _, _⟩ := DataW.trod_int uI r0
    obtain ⟨s, a1, b1, _⟩ := DataW.trod_string uS r1
    obtain ⟨lo, a3, _, _⟩ := DataW.trod_int uI r3
    obtain ⟨hi, a4, _, _⟩ := DataW.trod_int uI r4
    simp only [List.cons.injEq, and_true] at a0 a1 a3 a4
    subst a0 a1 a3 a4
    have hr := reachBytes_lt
    have hss : s.size ≤ 1000000000000000 := by
      rw [b1] at w1
      simp [DataW.weights] at w1
      omega
    obtain ⟨words, aw, nw, cw, rfl, hws, hwz, hwl⟩ := strs_arg r2 w2
    obtain ⟨evs, a, n', c, rfl, q1, q2, q3⟩ := rows_arg (Q := fun v : ExV => ∃ e, IsEx W e v.val ∧ e.fits ∧ e.few ∧ e.slim) ExV.cells exV_len (by omega) uExs cEx bEx (by omega) (fun k hk cs x g1 g2 => by
      obtain ⟨e, v, g3, g4⟩ := ih k (by omega) cs x g1 g2
      exact ⟨v, g3, e, g4⟩) r5 w5
    obtain ⟨l, hl1, hl2⟩ := list_of evs.length (Q := fun i e => ∀ h : i < evs.length, IsEx W e (evs[i]'h).val ∧ e.fits ∧ e.few ∧ e.slim) (fun i hi => by
      obtain ⟨e, he⟩ := q2 _ (List.getElem_mem hi)
      exact ⟨e, fun _ => he⟩)
    have hq : ∀ y ∈ l, y.fits ∧ y.few ∧ y.slim := fun y hy => by
      obtain ⟨i, hi, rfl⟩ := List.getElem_of_mem hy
      exact (hl2 i hi (by omega)).2
    refine ⟨.mk op s words lo hi l, ⟨op, s, aw, nw, cw, lo, hi, a, n', c⟩, rfl, IsEx.mk hws (by rw [hl1]; exact q1.1) q1.2.1 q1.2.2.1 ?_, fits_mk' hss hwz fun y hy => (hq y hy).1, few_mk' hwl fun y hy => (hq y hy).2.1, slim_mk (by rw [hl1, ← q1.1]; exact q3) fun y hy => (hq y hy).2.2⟩
    cases hll : l with
    | nil => unfold ExsD; trivial
    | cons z r =>
      rw [← hll]
      have hpos : 0 < evs.length := by rw [← hl1, hll]; simp
      obtain ⟨b, off, rfl, _⟩ := q1.2.2.2 0 hpos
      refine ExsD.of l off evs hl1 fun i h3 h4 => ⟨fun j hj => ?_, (hl2 i h3 h4).1⟩
      obtain ⟨b', off', e', hc⟩ := q1.2.2.2 i h4
      simp only [Option.some.injEq, Addr.mk.injEq, and_true] at e'
      obtain ⟨rfl, rfl⟩ := e'
      have hj' : j < (evs[i].cells).length := by rw [exV_len]; exact hj
      rw [hc j hj', List.getElem?_eq_getElem hj']
set_option maxRecDepth 100000 in
/-- An argument of type Expr. -/
theorem expr_arg2 {H : Type} {enc : TypeId × Value → H} {W : World} {v : Value} {d : DataW H} {p : List MemPlace} {ts : List TypeId} {ds : List (DataW H)} {j : Nat} (h : DataW.Trod enc Tryz.prog W 0 (fun _ => true) true 26 v d p) {base : Nat} (hval : Value.okWide Tryz.prog W .any base 26 v)
    (hs : (DataW.weightsEach Tryz.prog ts ds).all (· ≤ reachBytes) = true) (ht : ts[j]? = some 26) (hd : ds[j]? = some d) : ∃ (e : Ex), IsEx W e v ∧ e.fits ∧ e.few ∧ e.slim := by
  obtain ⟨fuel, hf⟩ := h
  have hw : (d.weights Tryz.prog 26).all (· ≤ reachBytes) = true := by
    rw [List.all_eq_true]
    intro n hn
    exact List.all_eq_true.1 hs n (DataW.weights_mem_each ht hd n hn)
  obtain ⟨e, x, h1, h2, h3, h4⟩ := ex_arg2 fuel _ _ hf hw
  refine ⟨e, ?_, h3, h4⟩
  obtain ⟨fs, uE, _⟩ := uEx
  obtain ⟨cs, rfl, _⟩ := okWide_struct uE hval
  simp only [Value.cells] at h1
  have : (Value.agg cs) = x.val := by
    have e : cs = x.cells.toArray := by rw [← h1]
    rw [e]; rfl
  rw [this]; exact h2
end Go.Proofs.YtpkljcgihobaiaaGreatDoor

namespace Go.Proofs.YtpkljcgihobaiaaGreatDoor
open Go.ChangeShapes Go.WideShapes Go.ChangeAt Go.RowKit

/-! Arguments of type []api.Clause. -/
theorem wbFields_are : (Tryz.prog.underlying 121).bind (fun u => match u with | .struct fs => some (fs.toList.map (fun f => (f.type, f.offset))) | _ => none) = some [(9, 0), (26, 1), (65, 7)] := by kernel_rfl
theorem uWb : ∃ fs : Array Field, Tryz.prog.underlying 121 = some (.struct fs) ∧ fs.toList.map (fun f => (f.type, f.offset)) = [(9, 0), (26, 1), (65, 7)] := by
  have h := wbFields_are
  generalize Tryz.prog.underlying 121 = U at *
  match U, h with
  | some (.struct fs), h => exact ⟨fs, rfl, by simpa using h⟩
theorem clFields_are : (Tryz.prog.underlying 67).bind (fun u => match u with | .struct fs => some (fs.toList.map (fun f => (f.type, f.offset))) | _ => none) = some [(3, 0), (9, 1), (26, 2), (65, 8), (3, 9)] := by kernel_rfl
theorem uCl : ∃ fs : Array Field, Tryz.prog.underlying 67 = some (.struct fs) ∧ fs.toList.map (fun f => (f.type, f.offset)) = [(3, 0), (9, 1), (26, 2), (65, 8), (3, 9)] := by
  have h := clFields_are
  generalize Tryz.prog.underlying 67 = U at *
  match U, h with
  | some (.struct fs), h => exact ⟨fs, rfl, by simpa using h⟩
theorem cWb : Tryz.prog.cellsOf 121 = 8 := by kernel_rfl
theorem cWbs : Tryz.prog.cellsOf 65 = 1 := by kernel_rfl
theorem uWbs : Tryz.prog.underlying 65 = some (.slice 121) := by kernel_rfl
theorem bWb : Tryz.prog.bytesOf 121 = 128 := by kernel_rfl
theorem cCl : Tryz.prog.cellsOf 67 = 10 := by kernel_rfl
theorem uCls : Tryz.prog.underlying 32 = some (.slice 67) := by kernel_rfl
theorem bCl : Tryz.prog.bytesOf 67 = 144 := by kernel_rfl
theorem list8 {α : Type} (l : List α) (h : l.length = 8) : ∃ a b c d e f g i, l = [a, b, c, d, e, f, g, i] := by
  rcases l with _ | ⟨a, _ | ⟨b, _ | ⟨c, _ | ⟨d, _ | ⟨e, _ | ⟨f, _ | ⟨g, _ | ⟨i, _ | ⟨j, r⟩⟩⟩⟩⟩⟩⟩⟩⟩ <;> simp at h
  exact ⟨a, b, c, d, e, f, g, i, rfl⟩
theorem list3 {α : Type} (l : List α) (h : l.length = 3) : ∃ a b c, l = [a, b, c] := by
  rcases l with _ | ⟨a, _ | ⟨b, _ | ⟨c, _ | ⟨d, r⟩⟩⟩⟩ <;> simp at h
  exact ⟨a, b, c, rfl⟩
theorem list10 {α : Type} (l : List α) (h : l.length = 10) : ∃ a b c d e f g i j k, l = [a, b, c, d, e, f, g, i, j, k] := by
  rcases l with _ | ⟨a, _ | ⟨b, _ | ⟨c, _ | ⟨d, _ | ⟨e, _ | ⟨f, _ | ⟨g, _ | ⟨i, _ | ⟨j, _ | ⟨k, _ | ⟨m, r⟩⟩⟩⟩⟩⟩⟩⟩⟩⟩⟩ <;> simp at h
  exact ⟨a, b, c, d, e, f, g, i, j, k, rfl⟩
theorem wbs_rows {W : World} {vs : List WbV} {a : Option Addr} {n c : Nat} (h : IsRows W 8 WbV.cells vs a n c) {l : List Wb} (hl : l.length = vs.length) (hw : ∀ i (h1 : i < l.length) (h2 : i < vs.length), IsWb W l[i] vs[i]) : WbsD W l a := by
  cases hll : l with
  | nil => unfold WbsD; trivial
  | cons z r =>
    rw [← hll]
    have hpos : 0 < vs.length := by rw [← hl, hll]; simp
    obtain ⟨b, off, rfl, _⟩ := h.2.2.2 0 hpos
    refine WbsD.of l off vs hl fun i h3 h4 => ?_
    obtain ⟨b', off', e', hc⟩ := h.2.2.2 i h4
    simp only [Option.some.injEq, Addr.mk.injEq, and_true] at e'
    obtain ⟨rfl, rfl⟩ := e'
    obtain ⟨g1, g2, g3, g4, g5, g6⟩ := hw i h3 h4
    exact ⟨g1, fun j hj => hc j hj, g2, g3, g4, g5, g6⟩
/-- What write-backs in a row are. -/
theorem wbs_read {W : World} {vs : List WbV} {a : Option Addr} {n c : Nat} (h : IsRows W 8 WbV.cells vs a n c) (hq : ∀ v ∈ vs, ∃ x : Wb, IsWb W x v ∧ x.fit) : ∃ l : List Wb, n = l.length ∧ n ≤ c ∧ OkAddr a c ∧ WbsD W l a ∧ wbFits l := by
  obtain ⟨l, hl1, hl2⟩ := list_of vs.length (Q := fun i e => ∀ h : i < vs.length, IsWb W e (vs[i]'h) ∧ e.fit) (fun i hi => by
    obtain ⟨e, he⟩ := hq _ (List.getElem_mem hi)
    exact ⟨e, fun _ => he⟩)
  refine ⟨l, by rw [hl1]; exact h.1, h.2.1, h.2.2.1, wbs_rows h hl1 fun i h1 h2 => (hl2 i h1 h2).1, wbFits_of l fun x hx => ?_⟩
  obtain ⟨i, hi, rfl⟩ := List.getElem_of_mem hx
  exact (hl2 i hi (by omega)).2
/-- A write-back that came in. -/
theorem wb_arg {H : Type} {enc : TypeId × Value → H} {W : World} : ∀ (fuel : Nat) (cs : List Value) (x : DataW H × List MemPlace), DataW.trod enc Tryz.prog W 0 (fun _ => true) true fuel 121 cs = some x → (x.1.weights Tryz.prog 121).all (· ≤ reachBytes) = true →
    ∃ v : WbV, cs = v.cells ∧ ∃ y : Wb, IsWb W y v ∧ y.fit := by
  intro fuel
  induction fuel using Nat.strongRecOn with
  | _ fuel ih =>
    intro cs x h hw
    obtain ⟨fs, uE, are⟩ := uWb
    obtain ⟨xs, n, rfl, rfl, hlen, hxl, hf⟩ := DataW.trod_struct uE h
    have e6 : fs.size = 3 := by have := congrArg List.length are; simpa using this
    rw [e6] at hxl
    rw [cWb] at hlen
    obtain ⟨c0, c1, c2, c3, c4, c5, c6, c7, rfl⟩ := list8 cs hlen
    obtain ⟨x0, x1, x2, rfl⟩ := list3 xs hxl
    obtain ⟨f0, g0, t0, o0⟩ := op_field 0 _ _ (by rw [are]; rfl)
    obtain ⟨f1, g1, t1, o1⟩ := op_field 1 _ _ (by rw [are]; rfl)
    obtain ⟨f2, g2, t2, o2⟩ := op_field 2 _ _ (by rw [are]; rfl)
    have r0 := hf 0 f0 g0
    have r1 := hf 1 f1 g1
    have r2 := hf 2 f2 g2
    rw [t0, o0, cS] at r0
    rw [t1, o1, cEx] at r1
    rw [t2, o2, cWbs] at r2
    simp only [List.drop_zero, List.drop_succ_cons, List.take_succ_cons, List.take_zero, List.getElem?_cons_zero, List.getElem?_cons_succ] at r0 r1 r2
    have hty : fs.toList.map (·.type) = [9, 26, 65] := by
      have := congrArg (List.map Prod.fst) are
      rw [List.map_map] at this
      exact this
    rw [DataW.weights, uE] at hw
    simp only [hty, List.map_cons, List.map_nil, DataW.weightsEach, List.all_append, Bool.and_eq_true] at hw
    obtain ⟨w0, w1, w2, _⟩ := hw
    obtain ⟨s, a0, b0, _⟩ := DataW.trod_string uS r0
    simp only [List.cons.injEq, and_true] at a0
    subst a0
    have hr := reachBytes_lt
    have hss : s.size ≤ 1000000000000000 := by
      rw [b0] at w0
      simp [DataW.weights] at w0
      omega
    obtain ⟨e, ev, he, hx1, hx2, hx3, hx4⟩ := ex_arg2 _ _ _ r1 w1
    obtain ⟨vs, a, n', c, rfl, q1, q2, q3⟩ := rows_arg (Q := fun v : WbV => ∃ x, IsWb W x v ∧ x.fit) WbV.cells WbV.len (by omega) uWbs cWb bWb (by omega) (fun k hk cs x g1 g2 => ih k (by omega) cs x g1 g2) r2 w2
    obtain ⟨l, hn, hnc, hoa, hd, hfit⟩ := wbs_read q1 q2
    simp only [ExV.cells, List.cons.injEq, and_true] at he
    obtain ⟨rfl, rfl, rfl, rfl, rfl, rfl⟩ := he
    exact ⟨⟨s, ev, a, n', c⟩, rfl, .mk s e l, ⟨rfl, hx1, hn, hnc, hoa, hd⟩, hss, hx2, hx3, hx4, by show l.length ≤ _; omega, hfit⟩
/-- A clause that came in. -/
theorem cla_arg {H : Type} {enc : TypeId × Value → H} {W : World} (fuel : Nat) (cs : List Value) (x : DataW H × List MemPlace) (h : DataW.trod enc Tryz.prog W 0 (fun _ => true) true fuel 67 cs = some x) (hw : (x.1.weights Tryz.prog 67).all (· ≤ reachBytes) = true) :
    ∃ v : ClV, cs = v.cells ∧ ∃ y : Cla, IsCla W y v ∧ y.fit := by
  obtain ⟨fs, uE, are⟩ := uCl
  obtain ⟨xs, n, rfl, rfl, hlen, hxl, hf⟩ := DataW.trod_struct uE h
  have e6 : fs.size = 5 := by have := congrArg List.length are; simpa using this
  rw [e6] at hxl
  rw [cCl] at hlen
  obtain ⟨c0, c1, c2, c3, c4, c5, c6, c7, c8, c9, rfl⟩ := list10 cs hlen
  obtain ⟨x0, x1, x2, x3, x4, rfl⟩ := list5 xs hxl
  obtain ⟨f0, g0, t0, o0⟩ := op_field 0 _ _ (by rw [are]; rfl)
  obtain ⟨f1, g1, t1, o1⟩ := op_field 1 _ _ (by rw [are]; rfl)
  obtain ⟨f2, g2, t2, o2⟩ := op_field 2 _ _ (by rw [are]; rfl)
  obtain ⟨f3, g3, t3, o3⟩ := op_field 3 _ _ (by rw [are]; rfl)
  obtain ⟨f4, g4, t4, o4⟩ := op_field 4 _ _ (by rw [are]; rfl)
  have r0 := hf 0 f0 g0
  have r1 := hf 1 f1 g1
  have r2 := hf 2 f2 g2
  have r3 := hf 3 f3 g3
  have r4 := hf 4 f4 g4
  rw [t0, o0, cI] at r0
  rw [t1, o1, cS] at r1
  rw [t2, o2, cEx] at r2
  rw [t3, o3, cWbs] at r3
  rw [t4, o4, cI] at r4
  simp only [List.drop_zero, List.drop_succ_cons, List.take_succ_cons, List.take_zero, List.getElem?_cons_zero, List.getElem?_cons_succ] at r0 r1 r2 r3 r4
  have hty : fs.toList.map (·.type) = [3, 9, 26, 65, 3] := by
    have := congrArg (List.map Prod.fst) are
    rw [List.map_map] at this
    exact this
  rw [DataW.weights, uE] at hw
  simp only [hty, List.map_cons, List.map_nil, DataW.weightsEach, List.all_append, Bool.and_eq_true] at hw
  obtain ⟨_, w1, w2, w3, _⟩ := hw
  obtain ⟨kind, a0, _, _⟩ := DataW.trod_int uI r0
  obtain ⟨s, a1, b1, _⟩ := DataW.trod_string uS r1
  obtain ⟨am, a4, _, _⟩ := DataW.trod_int uI r4
  simp only [List.cons.injEq, and_true] at a0 a1 a4
  subst a0 a1 a4
  have hr := reachBytes_lt
  have hss : s.size ≤ 1000000000000000 := by
    rw [b1] at w1
    simp [DataW.weights] at w1
    omega
  obtain ⟨e, ev, he, hx1, hx2, hx3, hx4⟩ := ex_arg2 _ _ _ r2 w2
  obtain ⟨vs, a, n', c, rfl, q1, q2, q3⟩ := rows_arg (Q := fun v : WbV => ∃ x, IsWb W x v ∧ x.fit) WbV.cells WbV.len (by omega) uWbs cWb bWb (by omega) (fun k hk cs x g1 g2 => wb_arg k cs x g1 g2) r3 w3
  obtain ⟨l, hn, hnc, hoa, hd, hfit⟩ := wbs_read q1 q2
  simp only [ExV.cells, List.cons.injEq, and_true] at he
  obtain ⟨rfl, rfl, rfl, rfl, rfl, rfl⟩ := he
  exact ⟨⟨kind, s, ev, a, n', c, am⟩, rfl, ⟨kind, s, e, l, am⟩, ⟨rfl, rfl, hx1, hn, hnc, hoa, hd, rfl⟩, hss, hx2, hx3, hx4, by show l.length ≤ _; omega, hfit⟩
set_option maxRecDepth 100000 in
/-- An argument of type []api.Clause. -/
theorem clas_arg {H : Type} {enc : TypeId × Value → H} {W : World} {base : Nat} {v : Value} {d : DataW H} {p : List MemPlace} {ts : List TypeId} {ds : List (DataW H)} {j : Nat} (hval : Value.okWide Tryz.prog W .any base 32 v) (h : DataW.Trod enc Tryz.prog W 0 (fun _ => true) true 32 v d p)
    (hs : (DataW.weightsEach Tryz.prog ts ds).all (· ≤ reachBytes) = true) (ht : ts[j]? = some 32) (hd : ds[j]? = some d) : ∃ l a n c, v = .slice a n c ∧ IsClas W l a n c ∧ (∀ x ∈ l, x.fit) ∧ n ≤ 1000000000000000 := by
  have hw : (d.weights Tryz.prog 32).all (· ≤ reachBytes) = true := by
    rw [List.all_eq_true]
    intro n hn
    exact List.all_eq_true.1 hs n (DataW.weights_mem_each ht hd n hn)
  obtain ⟨a, n, c, rfl⟩ := okWide_slice uCls hval
  obtain ⟨fuel, hf⟩ := h
  obtain ⟨vs, a', n', c', e', q1, q2, q3⟩ := rows_arg (Q := fun v : ClV => ∃ x, IsCla W x v ∧ x.fit) ClV.cells ClV.len (by omega) uCls cCl bCl (by omega) (fun k hk cs x g1 g2 => cla_arg k cs x g1 g2) hf hw
  simp only [Value.slice.injEq] at e'
  obtain ⟨rfl, rfl, rfl⟩ := e'
  obtain ⟨l, hl1, hl2⟩ := list_of vs.length (Q := fun i e => ∀ h : i < vs.length, IsCla W e (vs[i]'h) ∧ e.fit) (fun i hi => by
    obtain ⟨e, he⟩ := q2 _ (List.getElem_mem hi)
    exact ⟨e, fun _ => he⟩)
  refine ⟨l, a, n, c, rfl, ⟨vs, q1, hl1, fun i h1 h2 => (hl2 i h1 h2).1⟩, fun x hx => ?_, q3⟩
  obtain ⟨i, hi, rfl⟩ := List.getElem_of_mem hx
  exact (hl2 i hi (by omega)).2
end Go.Proofs.YtpkljcgihobaiaaGreatDoor
