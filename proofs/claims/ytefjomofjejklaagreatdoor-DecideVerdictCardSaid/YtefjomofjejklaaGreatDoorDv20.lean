/-
  Texts of the claim, joined: Truth, VrIn, DChk, Use0.
-/
import Derived.Test.YtefjomofjejklaaGreatDoorDv19
import Derived.Deep.CutBlock
import Derived.Shelf.SlicesQ.Reverse
import Derived.RangeFuncNested
import Derived.RangeFuncBound
import Derived.RangeFuncCalls
import Derived.RangeFuncLeaves
import Derived.RangeFuncBox
import Derived.Shelf.Abstract
import Derived.Shelf.RegionOpen
import Derived.OwnWalkIn
import Derived.TacticsInMore
import Derived.LoopNIn
import Derived.LoopIn
import Derived.Maps.OwnIn
namespace Go.Proofs.YtefjomofjejklaaGreatDoor
set_option maxRecDepth 100000
set_option maxHeartbeats 32000000
open Go.RowKit
def valsOf (s : List Attr) (l : List Cla) (f : ZI) (g : Nat) : BA -> Option Bool := fun x => (defAt l x).map fun d => valF s l f g (l.getD d cla0).cond
theorem valF_eq (s : List Attr) (l : List Cla) (f : ZI) (g : Nat) (e : Ex) : valF s l f (g + 1) e = valE s f (valsOf s l f g) e := rfl
def TruthN (s : List Attr) (f : ZI) (V : BA -> Option Bool) (args : List Ex) (na : Nat) (bs : Nat) (o0 o1 : Obj) (w : World) (t i : Value) (wr : World) : Prop := ∃ k q : Nat, i = .int .i64 k /\ t = .int .i64 q /\ k <= na /\ q <= k /\ (q = k ↔ ∀ j (h : j < args.length), j < k -> valE s f V args[j] = true) /\ wr.heap[bs]? = some o0 /\ wr.heap[bs + 1]? = some o1 /\ Ext w wr
def TruthA (s : List Attr) (f : ZI) (V : BA -> Option Bool) (args : List Ex) (na : Nat) (bs : Nat) (o0 o1 : Obj) (w : World) (i : Value) (wr : World) : Prop := ∃ k : Nat, i = .int .i64 k /\ k <= na /\ (∀ j (h : j < args.length), j < k -> valE s f V args[j] = false) /\ wr.heap[bs]? = some o0 /\ wr.heap[bs + 1]? = some o1 /\ Ext w wr
theorem rTruth_calls (s : List Attr) (l : List Cla) (f : ZI) (hc : Chk s l) (hfa : factsAll s f = true) (hsf : ∀ x ∈ s, x.fits) (a : OA) (n c : Nat) (fa : OA) (fn fc : Nat) : ∀ (g m : Nat) (e : Ex) (ev sv : Value) (w : World), e.size <= m -> m <= 1000000 -> okTree e -> nodesErr s l e = 0 -> expF l g e <= 2000 -> IsSchema w s sv -> IsClas w l a n c -> IsEx w e ev -> IsIntF w f fa fn ->
  Calls Tryz.prog 127 #[sv, .slice a n c, ev, .slice fa fn fc] w (GivesE (.bool (valF s l f g e)) w) := by
 intro g
 induction g with
 | zero => intro m e ev sv w _ _ _ _ h; simp [expF] at h
 | succ g ihg =>
  intro m
  induction m with
  | zero => intro e ev sv w h; have := size_pos e; omega
  | succ m ihm =>
   intro e ev sv w hm hMM hok hnd hex hs hl he hi
   have hways := node_ways hok hnd
   obtain ⟨-, hnda⟩ := nodes_parts hnd
   obtain ⟨hokn, hoka⟩ := okTree_parts hok
   have hexa := expE_arg (D := dOf l g) (e := e) (by rw [<- expF_succ]; exact hex)
   have hexh := expE_hd (D := dOf l g) (e := e) (by rw [<- expF_succ]; exact hex)
   obtain ⟨sa, sn, sc, rfl, hsn⟩ := hs.slice
   obtain ⟨aw, nw, cw, aa, na, ca, rfl, hw, hna, hca, ha, hx⟩ := he.parts
   have hS : e.size = 1 + sizes e.args := e.size_eq
   have hla := length_le_sizes e.args
   obtain ⟨op, name, words, lo, hi', args⟩ := e
   simp only [Ex.op, Ex.name, Ex.words, Ex.lo, Ex.hi, Ex.args] at *
   have hna2 : na <= 1000000 := by omega
   have hszm : sizes args <= m := by omega
   obtain ⟨R, hR⟩ : ∃ R, R = valF s l f (g + 1) (.mk op name words lo hi' args) := ⟨_, rfl⟩
   rw [<- hR]
   rw [valF_eq, valE] at hR
   have HR := hI hR
   have hsl6 := (schema_attrs hc.sch).2.1
   have hsn2 : sn <= 6 := by omega
   have hln := hl.len
   have hn100 : n <= 100 := by rw [hln]; exact hc.len
   have HSN := hI hsn
   have HLN := hI hln
   have HC := hI hc
   have HFA := hI hfa
   have HSF := hI hsf
   have HS := hI hs
   have HL := hI hl
   have HX := hI hx
   have HW := hI hw
   have HI := hI hi
   have HNA := hI hna
   have HARG := hI (fun (j : Nat) (hj : j < args.length) (xv : Value) (W : World) (hW : Ext w W) (hxv : IsEx W args[j] xv) => ihm args[j] xv (.agg #[.slice sa sn sc]) W (by have h1 := sizes_take_succ args j hj; have h2 := sizes_take_le args (j + 1); omega) (by omega) (hoka _ (List.getElem_mem hj)) (hnda j hj) (by rw [expF_succ]; exact hexa j hj) (hs.ext hW) (hl.ext hW) hxv (hi.ext hW))
   have HDEF := hI (fun (h3 : op = 3) (d : Nat) (hd : defAt l name = some d) (xv : Value) (W : World) (hW : Ext w W) (hxv : IsEx W (l.getD d cla0).cond xv) => ihg 300 (l.getD d cla0).cond xv (.agg #[.slice sa sn sc]) W (hc.cond (defAt_atK hd).1).2.2 (by omega) (hc.cond (defAt_atK hd).1).1 (hc.cond (defAt_atK hd).1).2.1 (hexh h3 (by unfold dOf; rw [hd]; rfl)) (hs.ext hW) (hl.ext hW) hxv (hi.ext hW))
   have HWD := hI (show op = 4 -> words.length <= 12 from fun h4 => by
    rcases hokn with ⟨h1, -⟩ | ⟨h1, -⟩ | ⟨h1, -⟩ | ⟨h1, -, h2, -⟩ | ⟨h1, -⟩ | ⟨h1, -⟩ | ⟨h1, -⟩ <;> simp only [Ex.op] at h1
    all_goals first | omega | skip
    simp only [Ex.words, wordsB, Bool.and_eq_true] at h2
    exact of_decide_eq_true h2.1.1.2)
   clear hc hfa hsf hs hl hx hw hi hna hca ha hS hla ihg ihm hm hnda hoka hexa hexh hokn hok hnd hex he hsn hln hsl6 hR
   unfold exV
   obtain ⟨wa, hwa⟩ : ∃ wa, wa = (w.alloc (.cells #[.slice sa sn sc] 24)).alloc (.cells #[.int .i64 op, .string name, .slice aw nw cw, .int .i64 lo, .int .i64 hi', .slice aa na ca] 45) := ⟨_, rfl⟩
   have hxa : Ext w wa := by rw [hwa]; exact ((Ext.refl _).alloc _).alloc _
   have hb0 : wa.heap[w.heap.size]? = some (.cells #[.slice sa sn sc] 24 (0, 0)) := by rw [hwa]; exact blk_alloc (alloc_new w _)
   have hb1 : wa.heap[w.heap.size + 1]? = some (.cells #[.int .i64 op, .string name, .slice aw nw cw, .int .i64 lo, .int .i64 hi', .slice aa na ca] 45 (0, 0)) := by rw [hwa]; exact alloc_atR (by simp)
   have HXA := hI hxa
   have HB0 := hI hb0
   have HB1 := hI hb1
   obtain ⟨f0, f1, f2, f3, f4, f5, ff⟩ := blk6 hb1
   obtain ⟨e0, ef⟩ := blk1 hb0
   have hltw := blk_lt hb1
   have HIX := hI (rIndex_calls s _ name wa (HS.out.ext hxa) (by have := HSN.out; omega))
   clear hxa hb0 hb1
   rcases hways with rfl | rfl | ⟨rfl, i, hat, hkd⟩ | ⟨rfl, hat, d, hdf⟩ | ⟨rfl, i, hat, hkd⟩ | ⟨rfl, i, hat, hkd⟩ | ⟨rfl, hl1⟩ | rfl | rfl
   -- true
   ·have HQ := hI (show R = true by rw [HR.out]; simp [factV])
    go_enter Tryz.func127, Tryz.ntmps127
    go_upto_region 1 with fail
    rw [<- hwa]
    clear hwa
    go_wp2_with fail
    refine HIX.out.mono ?_
    rintro r w1 ⟨rfl, hx1⟩
    have HX1 := hI (HXA.out.trans hx1)
    unfold optV
    clear f0 f1 f2 f3 f4 f5 ff e0 ef hltw
    obtain ⟨f0, f1, f2, f3, f4, f5, ff⟩ := blk6 (hx1.blk HB1.out)
    clear hx1
    go_wp2_with fail
    go_ret
    exact givesE_bool (by rw [HQ.out]) HX1.out
   -- false
   ·have HQ := hI (show R = false by rw [HR.out]; simp [factV])
    go_enter Tryz.func127, Tryz.ntmps127
    go_upto_region 1 with fail
    rw [<- hwa]
    clear hwa
    go_wp2_with fail
    refine HIX.out.mono ?_
    rintro r w1 ⟨rfl, hx1⟩
    have HX1 := hI (HXA.out.trans hx1)
    unfold optV
    clear f0 f1 f2 f3 f4 f5 ff e0 ef hltw
    obtain ⟨f0, f1, f2, f3, f4, f5, ff⟩ := blk6 (hx1.blk HB1.out)
    clear hx1
    go_wp2_with fail
    go_ret
    exact givesE_bool (by rw [HQ.out]) HX1.out
   -- an attribute
   ·obtain ⟨his, -⟩ := attrAt_at hat
    obtain ⟨hif, hlo2, hhi2⟩ := fact_at HFA.out his
    obtain ⟨fb, fo, rfl, hcell⟩ := HI.out.2 i hif
    obtain ⟨z, hz⟩ : ∃ z, z = f[i] := ⟨_, rfl⟩
    rw [<- hz] at hcell
    have hdn : defAt l name = none := by
     cases hd : defAt l name with
     | none => rfl
     | some d => rw [HC.out.apart hd] at hat; cases hat
    have HQ := hI (show R = (z == 1) by
     rw [HR.out]
     simp only [factV, valsOf, hdn, hat]
     rw [Bool.eq_iff_iff]; simp [hif, <- hz])
    have hin : i < fn := by rw [HI.out.1]; exact hif
    have HCF := hI hcell
    rw [hat, optV_some] at HIX
    clear hat hkd his hif hlo2 hhi2 hcell hz hdn
    go_enter Tryz.func127, Tryz.ntmps127
    go_upto_region 1 with fail
    rw [<- hwa]
    clear hwa
    go_wp2_with fail
    refine HIX.out.mono ?_
    rintro r w1 ⟨rfl, hx1⟩
    have HX1 := hI (HXA.out.trans hx1)
    clear f0 f1 f2 f3 f4 f5 ff e0 ef hltw
    obtain ⟨f0, f1, f2, f3, f4, f5, ff⟩ := blk6 (hx1.blk HB1.out)
    have hcf := HX1.out.cell HCF.out
    clear hx1
    go_wp2_with fail
    go_ret
    exact givesE_bool (by rw [HQ.out]) HX1.out
   -- a definition
   ·have hdl := (defAt_atK hdf).1
    have HQ := hI (show R = valF s l f g (l.getD d cla0).cond by
     rw [HR.out]
     rw [if_neg (by decide), if_neg (by decide), if_neg (by decide), if_pos rfl, valsOf, hdf]; rfl)
    have hdn : d < n := by rw [HLN.out]; exact hdl
    have HDC := hI (fun W (hW : Ext w W) => rDef_calls l a n c name W (HL.out.ext hW) (by omega))
    rw [hdf] at HDC
    obtain ⟨cb, coff, v, rfl, hcla, hrow⟩ := HL.out.at hdl
    have HRW := hI hrow
    have HCX := hI (show IsEx w (l.getD d cla0).cond v.x.val by rw [getD_clK hdl]; exact hcla.2.2.1)
    have HDF := hI (HDEF.out rfl d hdf)
    obtain ⟨V, hV⟩ : ∃ V, V = valF s l f g (l.getD d cla0).cond := ⟨_, rfl⟩
    rw [<- hV] at HQ HDF
    rw [hat, optV_none] at HIX
    clear hV hat hdf hdl hcla hrow HDEF HARG
    go_enter Tryz.func127, Tryz.ntmps127
    go_upto_region 1 with fail
    rw [<- hwa]
    clear hwa
    go_wp2_with fail
    refine HIX.out.mono ?_
    rintro r w1 ⟨rfl, hx1⟩
    have HX1 := hI (HXA.out.trans hx1)
    have HB11 := hI (hx1.blk HB1.out)
    have HB01 := hI (hx1.blk HB0.out)
    clear f0 f1 f2 f3 f4 f5 ff e0 ef hltw
    obtain ⟨f0, f1, f2, f3, f4, f5, ff⟩ := blk6 HB11.out
    clear hx1
    go_wp2_with fail
    refine (HDC.out w1 HX1.out).mono ?_
    rintro r w2 ⟨rfl, rfl⟩
    rw [optV_some]
    obtain ⟨e0, ef⟩ := blk1 HB01.out
    obtain ⟨c0, c1, c2, c3, c4, c5, c6, c7, c8, c9⟩ := (HRW.out.mono HX1.out.sub).ten
    go_wp2_with fail
    go_still_tail 8, (by kernel_rfl)
    change wpList _ _ _ _ _ w1.drew
    have hx2 : Ext w1 w1.drew := (Ext.refl w1).drew
    generalize w1.drew = w2 at hx2 ⊢
    have HX2 := hI (HX1.out.trans hx2)
    clear hx2 c0 c1 c2 c3 c4 c5 c6 c7 c8 c9 f0 f1 f2 f3 f4 f5 ff e0 ef
    have HDG := hI (HDF.out v.x.val w2 HX2.out (HCX.out.ext HX2.out))
    unfold ExV.val exV at HDG
    go_wp2_with fail
    refine HDG.out.mono ?_
    rintro r w3 ⟨rfl, hx3⟩
    have HX3 := hI (HX2.out.trans hx3)
    clear hx3
    go_wp2_with fail
    go_ret
    exact givesE_bool (by rw [HQ.out]) HX3.out
   -- a word
   ·obtain ⟨his, -⟩ := attrAt_at hat
    obtain ⟨hif, hlo2, hhi2⟩ := fact_at HFA.out his
    have hkd' : s[i].kind = 1 := by rw [<- hkd]; simp [his]
    have hdm : domB s[i] = (0, (s[i].words.length : Int) - 1) := by unfold domB; rw [if_pos hkd']
    rw [hdm] at hlo2 hhi2
    simp only at hlo2 hhi2
    obtain ⟨ab, ao, rfl, hA⟩ : ∃ ab ao, sa = some ⟨ab, ao, none⟩ /\ AttrAt w s[i] ab (ao + i * 5) := by
     obtain ⟨xa, xn, xc, e', -, -, -, hq⟩ := HS.out.parts
     simp only [Value.agg.injEq, Array.mk.injEq, List.cons.injEq, Value.slice.injEq, and_true] at e'
     obtain ⟨rfl, rfl, rfl⟩ := e'
     exact hq i his
    obtain ⟨x1, hx1⟩ : ∃ x1, x1 = s[i] := ⟨_, rfl⟩
    rw [<- hx1] at hA hkd' hhi2
    obtain ⟨bw, nwa, cwa, hstr, hfive⟩ := hA.five
    have H5 := hI hfive
    obtain ⟨fb, fo, rfl, hcell⟩ := HI.out.2 i hif
    obtain ⟨z, hz⟩ : ∃ z : Nat, f[i] = (z : Int) := ⟨f[i].toNat, by omega⟩
    rw [hz] at hcell hlo2 hhi2
    have hzw : z < x1.words.length := by omega
    obtain ⟨wb, wo, rfl, hwc⟩ := hstr.2.2.2 z hzw
    have HWC := hI hwc
    have hzn : z < nwa := by rw [hstr.1]; exact hzw
    have HQ := hI (show R = words.any (fun y => decide (y = x1.words[z])) by
     rw [HR.out]
     simp only [factV, hat]
     rw [if_neg (by decide), if_neg (by decide), if_neg (by decide), if_neg (by decide), if_neg (by decide), if_neg (by decide), if_pos (by decide)]
     simp [his, hif, hz, <- hx1, hzw])
    have hin : i < fn := by rw [HI.out.1]; exact hif
    have hisn : i < sn := by rw [HSN.out]; exact his
    have HCF := hI hcell
    have HWI := hI (fun W (hW : Ext w W) => rWithin_calls words aw nw cw x1.words[z] W (HW.out.ext hW) (by have := HWD.out rfl; rw [HW.out.1]; omega))
    rw [hat, optV_some] at HIX
    obtain ⟨x, hxx⟩ : ∃ x, x = x1.words[z] := ⟨_, rfl⟩
    rw [<- hxx] at HWC HQ HWI
    clear hx1 hat hkd his hif hlo2 hhi2 hcell hz hkd' hdm hA hstr hfive hwc hzw hxx HARG HDEF
    go_enter Tryz.func127, Tryz.ntmps127
    go_upto_region 1 with fail
    rw [<- hwa]
    clear hwa
    go_wp2_with fail
    refine HIX.out.mono ?_
    rintro r w1 ⟨rfl, hx1⟩
    have HX1 := hI (HXA.out.trans hx1)
    clear f0 f1 f2 f3 f4 f5 ff e0 ef hltw
    obtain ⟨f0, f1, f2, f3, f4, f5, ff⟩ := blk6 (hx1.blk HB1.out)
    obtain ⟨e0, ef⟩ := blk1 (hx1.blk HB0.out)
    have hcf := HX1.out.cell HCF.out
    have hwf := HX1.out.cell HWC.out
    obtain ⟨g0, g1, g2, g3, g4⟩ := H5.out w1 HX1.out
    clear hx1
    go_wp2_with fail
    go_still_tail 14, (by kernel_rfl)
    change wpList _ _ _ _ _ w1.drew
    have hx2 : Ext w1 w1.drew := (Ext.refl w1).drew
    generalize w1.drew = w2 at hx2 ⊢
    have HX2 := hI (HX1.out.trans hx2)
    clear hx2 f0 f1 f2 f3 f4 f5 ff e0 ef hcf hwf g0 g1 g2 g3 g4
    go_wp2_with fail
    refine (HWI.out w2 HX2.out).mono ?_
    rintro r w3 ⟨rfl, rfl⟩
    go_wp2_with fail
    go_ret
    exact givesE_bool (by rw [HQ.out]) HX2.out
   -- a number
   ·obtain ⟨his, -⟩ := attrAt_at hat
    obtain ⟨hif, -, -⟩ := fact_at HFA.out his
    obtain ⟨fb, fo, rfl, hcell⟩ := HI.out.2 i hif
    obtain ⟨z, hz⟩ : ∃ z, z = f[i] := ⟨_, rfl⟩
    rw [<- hz] at hcell
    have HQ := hI (show R = (decide (lo <= z) && decide (z <= hi')) by
     rw [HR.out]
     simp only [factV, hat]
     rw [if_neg (by decide), if_neg (by decide), if_neg (by decide), if_neg (by decide), if_neg (by decide), if_neg (by decide), if_neg (by decide), if_pos (by decide)]
     simp [hif, <- hz])
    have hin : i < fn := by rw [HI.out.1]; exact hif
    have HCF := hI hcell
    rw [hat, optV_some] at HIX
    clear hat hkd his hif hcell hz HARG HDEF
    have hw4 : (decide (lo <= z) = true /\ decide (z <= hi') = true /\ R = true) \/ (decide (lo <= z) = true /\ decide (z <= hi') = false /\ R = false) \/ (decide (lo <= z) = false /\ R = false) := by
     rw [HQ.out]
     cases decide (lo <= z) <;> cases decide (z <= hi') <;> simp
    rcases hw4 with ⟨t1, t2, hf⟩ | ⟨t1, t2, hf⟩ | ⟨t1, hf⟩
    all_goals
     have HF := hI hf
     clear hf
     go_enter Tryz.func127, Tryz.ntmps127
     go_upto_region 1 with fail
     rw [<- hwa]
     clear hwa
     go_wp2_with fail
     refine HIX.out.mono ?_
     rintro r w1 ⟨rfl, hx1⟩
     have HX1 := hI (HXA.out.trans hx1)
     clear f0 f1 f2 f3 f4 f5 ff e0 ef hltw
     obtain ⟨f0, f1, f2, f3, f4, f5, ff⟩ := blk6 (hx1.blk HB1.out)
     have hcf := HX1.out.cell HCF.out
     clear hx1
     go_wp2_with fail
     go_quiet (fail)
     go_wp2_with fail
     go_ret
     exact givesE_bool (by rw [HF.out]) (HX1.out.drewN _)
   -- not
   ·have hj : 0 < args.length := by omega
    have HQ := hI (show R = !(valF s l f (g + 1) args[0]) by
     rw [HR.out, if_pos rfl, valHd_at, List.getElem?_eq_getElem hj]; rfl)
    have hnp : 0 < na := by have := HNA.out; omega
    have HXJ := hI (fun W (hW : Ext w W) => ExsD.at args _ (ExsD.ext hW args _ HX.out) 0 hj)
    have HA0 := hI (HARG.out 0 hj)
    obtain ⟨V, hV⟩ : ∃ V, V = valF s l f (g + 1) args[0] := ⟨_, rfl⟩
    rw [<- hV] at HQ HA0
    clear hl1 hV HARG HDEF
    go_enter Tryz.func127, Tryz.ntmps127
    go_upto_region 1 with fail
    rw [<- hwa]
    clear hwa
    go_wp2_with fail
    refine HIX.out.mono ?_
    rintro r w1 ⟨rfl, hx1⟩
    have HX1 := hI (HXA.out.trans hx1)
    unfold optV
    clear f0 f1 f2 f3 f4 f5 ff e0 ef hltw
    obtain ⟨f0, f1, f2, f3, f4, f5, ff⟩ := blk6 (hx1.blk HB1.out)
    obtain ⟨e0, ef⟩ := blk1 (hx1.blk HB0.out)
    obtain ⟨b, off, rfl, aw1, nw1, cw1, aa1, na1, ca1, h0, h1, h2, h3, h4, h5, h6⟩ := HXJ.out w1 HX1.out
    have H6 := hI h6
    simp only [Nat.zero_mul, Nat.add_zero] at h0 h1 h2 h3 h4 h5
    clear hx1 h6
    go_wp2_with fail
    go_still_tail 7, (by kernel_rfl)
    change wpList _ _ _ _ _ w1.drew
    have hx2 : Ext w1 w1.drew := (Ext.refl w1).drew
    generalize w1.drew = w2 at hx2 ⊢
    have HX2 := hI (HX1.out.trans hx2)
    have HAX := hI (HA0.out _ w2 HX2.out (H6.out.ext hx2))
    unfold exV at HAX
    clear hx2 f0 f1 f2 f3 f4 f5 ff e0 ef h0 h1 h2 h3 h4 h5
    go_wp2_with fail
    refine HAX.out.mono ?_
    rintro r w3 ⟨rfl, hx3⟩
    have HX3 := hI (HX2.out.trans hx3)
    clear hx3
    go_wp2_with fail
    go_ret
    exact givesE_bool (by rw [HQ.out]) HX3.out
   -- and
   ·have HQ := hI (show R = args.all (valE s f (valsOf s l f g)) by rw [HR.out, if_neg (by decide), if_pos rfl, valAll_iff])
    have HXJ := hI (fun W (hW : Ext w W) => ExsD.at args _ (ExsD.ext hW args _ HX.out))
    obtain ⟨V, hV⟩ : ∃ V, V = valsOf s l f g := ⟨_, rfl⟩
    rw [<- hV] at HQ
    have HAV := hI (show ∀ (j : Nat) (hj : j < args.length) (xv : Value) (W : World), Ext w W -> IsEx W args[j] xv -> Calls Tryz.prog 127 #[.agg #[.slice sa sn sc], .slice a n c, xv, .slice fa fn fc] W (GivesE (.bool (valE s f V args[j])) W) from fun j hj xv W hW hxv => by rw [hV, <- valF_eq]; exact HARG.out j hj xv W hW hxv)
    clear hV HARG HDEF
    go_enter Tryz.func127, Tryz.ntmps127
    go_upto_region 1 with fail
    rw [<- hwa]
    clear hwa
    go_wp2_with fail
    refine HIX.out.mono ?_
    rintro r w1 ⟨rfl, hx1⟩
    have HX1 := hI (HXA.out.trans hx1)
    have HB01 := hI (hx1.blk HB0.out)
    have HB11 := hI (hx1.blk HB1.out)
    unfold optV
    clear f0 f1 f2 f3 f4 f5 ff e0 ef hltw
    obtain ⟨f0, f1, f2, f3, f4, f5, ff⟩ := blk6 HB11.out
    clear hx1
    go_wp2_with fail
    clear f0 f1 f2 f3 f4 f5 ff
    go_loopw [13, 14] (TruthN s f V args na w.heap.size (.cells #[.slice sa sn sc] 24 (0, 0)) (.cells #[.int .i64 7, .string name, .slice aw nw cw, .int .i64 lo, .int .i64 hi', .slice aa na ca] 45 (0, 0)) w) (fun _ i _ => na - (intOf i).toNat)
    case atStart => exact ⟨0, 0, rfl, rfl, by omega, by omega, ⟨fun _ j _ h => by omega, fun _ => rfl⟩, HB01.out, HB11.out, HX1.out⟩
    case round =>
     obtain ⟨k, q, rfl, rfl, hk, hqk, hall, hb0, hb1, hxr⟩ := hrel
     have HALL := hI hall
     have HB0R := hI hb0
     have HB1R := hI hb1
     have HXR := hI hxr
     obtain ⟨e0, ef⟩ := blk1 hb0
     obtain ⟨f0, f1, f2, f3, f4, f5, ff⟩ := blk6 hb1
     clear hall hb0 hb1 hxr
     by_cases hkn : k < na
     ·have hka : k < args.length := by have := HNA.out; omega
      have t1 : decide ((k : Int) < (na : Int)) = true := decide_eq_true (by omega)
      obtain ⟨b, off, rfl, aw1, nw1, cw1, aa1, na1, ca1, h0, h1, h2, h3, h4, h5, h6⟩ := HXJ.out wr HXR.out k hka
      have H6 := hI h6
      have HAK := hI (HAV.out k hka)
      obtain ⟨B, hB⟩ : ∃ B, B = valE s f V args[k] := ⟨_, rfl⟩
      rw [<- hB] at HAK
      have HBB := hI hB
      clear h6 hB
      go_wp2_with fail
      go_still_tail 8, (by kernel_rfl)
      change wpList _ _ _ _ _ wr.drew
      have hx2 : Ext wr wr.drew := (Ext.refl wr).drew
      generalize wr.drew = w2 at hx2 ⊢
      have HX2 := hI (HXR.out.trans hx2)
      have HB02 := hI (hx2.blk HB0R.out)
      have HB12 := hI (hx2.blk HB1R.out)
      have HAX := hI (HAK.out _ w2 HX2.out (H6.out.ext hx2))
      unfold exV at HAX
      clear hx2 f0 f1 f2 f3 f4 f5 ff e0 ef h0 h1 h2 h3 h4 h5
      go_wp2_with fail
      refine HAX.out.mono ?_
      rintro r w3 ⟨rfl, hx3⟩
      have HX3 := hI (HX2.out.trans hx3)
      have HB03 := hI (hx3.blk HB02.out)
      have HB13 := hI (hx3.blk HB12.out)
      clear hx3
      cases B
      ·go_wp2_with fail
       go_roundw
       case rel =>
        refine ⟨k + 1, q, by go_num, rfl, by omega, by omega, ⟨fun h => by omega, fun h => ?_⟩, HB03.out, HB13.out, HX3.out⟩
        have := h k hka (by omega)
        rw [<- HBB.out] at this; cases this
       case measure => simp [intOf]; omega
      go_wp2_with fail
      go_roundw
      case rel =>
       refine ⟨k + 1, q + 1, by go_num, by go_num, by omega, by omega, ⟨fun h j hj hjk => ?_, fun h => ?_⟩, HB03.out, HB13.out, HX3.out⟩
       ·by_cases e : j = k
        ·subst e; exact HBB.out.symm
        exact HALL.out.1 (by omega) j hj (by omega)
       have := HALL.out.2 fun j hj hjk => h j hj (by omega)
       omega
      case measure => simp [intOf]; omega
     have t1 : decide ((k : Int) < (na : Int)) = false := decide_eq_false (by omega)
     have HF := hI (show R = ((q : Int) == (na : Int)) by
      rw [HQ.out, Bool.eq_iff_iff, List.all_eq_true]
      simp only [beq_iff_eq]
      constructor
      ·intro h
       have := HALL.out.2 fun j hj _ => h _ (List.getElem_mem hj)
       omega
      intro h x hx
      obtain ⟨j, hj, rfl⟩ := List.getElem_of_mem hx
      exact HALL.out.1 (by omega) j hj (by have := HNA.out; omega))
     go_wp2_with fail
     go_ret
     exact givesE_bool (by rw [HF.out]) HXR.out
   -- or
   have HQ := hI (show R = args.any (valE s f (valsOf s l f g)) by rw [HR.out, if_neg (by decide), if_neg (by decide), if_pos rfl, valAny_iff])
   have HXJ := hI (fun W (hW : Ext w W) => ExsD.at args _ (ExsD.ext hW args _ HX.out))
   obtain ⟨V, hV⟩ : ∃ V, V = valsOf s l f g := ⟨_, rfl⟩
   rw [<- hV] at HQ
   have HAV := hI (show ∀ (j : Nat) (hj : j < args.length) (xv : Value) (W : World), Ext w W -> IsEx W args[j] xv -> Calls Tryz.prog 127 #[.agg #[.slice sa sn sc], .slice a n c, xv, .slice fa fn fc] W (GivesE (.bool (valE s f V args[j])) W) from fun j hj xv W hW hxv => by rw [hV, <- valF_eq]; exact HARG.out j hj xv W hW hxv)
   clear hV HARG HDEF
   go_enter Tryz.func127, Tryz.ntmps127
   go_upto_region 1 with fail
   rw [<- hwa]
   clear hwa
   go_wp2_with fail
   refine HIX.out.mono ?_
   rintro r w1 ⟨rfl, hx1⟩
   have HX1 := hI (HXA.out.trans hx1)
   have HB01 := hI (hx1.blk HB0.out)
   have HB11 := hI (hx1.blk HB1.out)
   unfold optV
   clear f0 f1 f2 f3 f4 f5 ff e0 ef hltw
   obtain ⟨f0, f1, f2, f3, f4, f5, ff⟩ := blk6 HB11.out
   clear hx1
   go_wp2_with fail
   clear f0 f1 f2 f3 f4 f5 ff
   go_loopw [15] (TruthA s f V args na w.heap.size (.cells #[.slice sa sn sc] 24 (0, 0)) (.cells #[.int .i64 8, .string name, .slice aw nw cw, .int .i64 lo, .int .i64 hi', .slice aa na ca] 45 (0, 0)) w) (fun i _ => na - (intOf i).toNat)
   case atStart => exact ⟨0, rfl, by omega, fun j _ h => by omega, HB01.out, HB11.out, HX1.out⟩
   case round =>
    obtain ⟨k, rfl, hk, hall, hb0, hb1, hxr⟩ := hrel
    have HALL := hI hall
    have HB0R := hI hb0
    have HB1R := hI hb1
    have HXR := hI hxr
    obtain ⟨e0, ef⟩ := blk1 hb0
    obtain ⟨f0, f1, f2, f3, f4, f5, ff⟩ := blk6 hb1
    clear hall hb0 hb1 hxr
    by_cases hkn : k < na
    ·have hka : k < args.length := by have := HNA.out; omega
     have t1 : decide ((k : Int) < (na : Int)) = true := decide_eq_true (by omega)
     obtain ⟨b, off, rfl, aw1, nw1, cw1, aa1, na1, ca1, h0, h1, h2, h3, h4, h5, h6⟩ := HXJ.out wr HXR.out k hka
     have H6 := hI h6
     have HAK := hI (HAV.out k hka)
     obtain ⟨B, hB⟩ : ∃ B, B = valE s f V args[k] := ⟨_, rfl⟩
     rw [<- hB] at HAK
     have HBB := hI hB
     clear h6 hB
     go_wp2_with fail
     go_still_tail 8, (by kernel_rfl)
     change wpList _ _ _ _ _ wr.drew
     have hx2 : Ext wr wr.drew := (Ext.refl wr).drew
     generalize wr.drew = w2 at hx2 ⊢
     have HX2 := hI (HXR.out.trans hx2)
     have HB02 := hI (hx2.blk HB0R.out)
     have HB12 := hI (hx2.blk HB1R.out)
     have HAX := hI (HAK.out _ w2 HX2.out (H6.out.ext hx2))
     unfold exV at HAX
     clear hx2 f0 f1 f2 f3 f4 f5 ff e0 ef h0 h1 h2 h3 h4 h5
     go_wp2_with fail
     refine HAX.out.mono ?_
     rintro r w3 ⟨rfl, hx3⟩
     have HX3 := hI (HX2.out.trans hx3)
     have HB03 := hI (hx3.blk HB02.out)
     have HB13 := hI (hx3.blk HB12.out)
     clear hx3
     cases B
     ·go_wp2_with fail
      go_roundw
      case rel =>
       refine ⟨k + 1, by go_num, by omega, fun j hj hjk => ?_, HB03.out, HB13.out, HX3.out⟩
       by_cases e : j = k
       ·subst e; exact HBB.out.symm
       exact HALL.out j hj (by omega)
      case measure => simp [intOf]; omega
     have HF := hI (show R = true by rw [HQ.out, List.any_eq_true]; exact ⟨_, List.getElem_mem hka, HBB.out.symm⟩)
     go_wp2_with fail
     go_ret
     exact givesE_bool (by rw [HF.out]) HX3.out
    have t1 : decide ((k : Int) < (na : Int)) = false := decide_eq_false (by omega)
    have HF := hI (show R = false by
     rw [HQ.out, List.any_eq_false]
     intro x hx
     obtain ⟨j, hj, rfl⟩ := List.getElem_of_mem hx
     rw [HALL.out j hj (by have := HNA.out; omega)]; simp)
    go_wp2_with fail
    go_ret
    exact givesE_bool (by rw [HF.out]) HXR.out
def Pv (s : List Attr) (l : List Cla) (e : Ex) : Prop := okTree e /\ nodesErr s l e = 0 /\ expF l (l.length + 1) e <= 2000 /\ e.size <= 300
theorem ref_tree {e : Ex} (h : refExprB e = true) : okTree e /\ e.size <= 300 := by
 rw [refExprB, Bool.and_eq_true, Bool.and_eq_true] at h
 refine ⟨(nodes_ok _).1 h.2, ?_⟩
 have := h.1.2
 simp only [decide_eq_true_eq] at this
 unfold refSize at this
 omega
theorem wbs_chk {s : List Attr} {l : List Cla} : (u : List Wb) -> (d : Nat) -> backsB d u = true -> backsErr s l u = 0 -> backsLarge l u = false -> cntBacks u <= 40 -> wbsOkT (Pv s l) u /\ u.length <= 40
 | [], _, _, _, _, _ => ⟨by unfold wbsOkT; trivial, by simp⟩
 | .mk n c u :: r, d, h1, h2, h3, h4 => by
  rw [backsB] at h1
  simp only [Bool.and_eq_true] at h1
  obtain ⟨⟨⟨⟨_, _⟩, g1⟩, g2⟩, g3⟩ := h1
  rw [backsErr] at h2
  by_cases k1 : nodesErr s l c ≠ 0
  ·rw [if_pos k1] at h2; exact absurd h2 k1
  rw [if_neg k1] at h2
  by_cases k2 : backsErr s l u ≠ 0
  ·rw [if_pos k2] at h2; exact absurd h2 k2
  rw [if_neg k2] at h2
  rw [backsLarge] at h3
  simp only [Bool.or_eq_false_iff, decide_eq_false_iff_not] at h3
  obtain ⟨⟨q1, q2⟩, q3⟩ := h3
  rw [cntBacks] at h4
  obtain ⟨e1, e2⟩ := ref_tree g1
  obtain ⟨u1, u2⟩ := wbs_chk u (d - 1) g2 (by simpa using k2) q2 (by omega)
  obtain ⟨r1, r2⟩ := wbs_chk r d g3 h2 q3 (by omega)
  have hl : ∀ (x : List Wb), x.length <= cntBacks x := fun x => by
   induction x with
   | nil => simp
   | cons y t ih => cases y with | mk _ _ _ => rw [cntBacks]; simp; omega
  have hr := hl r
  refine ⟨?_, by simp; omega⟩
  unfold wbsOkT
  exact ⟨⟨e1, by simpa using k1, by unfold expanded at q1; omega, e2⟩, u1, by omega, r1⟩
structure ClaK (s : List Attr) (l : List Cla) (x : Cla) : Prop where
 cond : Pv s l x.cond
 wbs : wbsOkT (Pv s l) x.unl
 len : x.unl.length <= 40
 kind : 1 <= x.kind /\ x.kind <= 10
 amt : (mostOf x.kind = 0 /\ x.amount = 0) \/ (1 <= x.amount /\ x.amount <= mostOf x.kind)
theorem claK_of {s : List Attr} {l : List Cla} (h : (clausesErr s l).2 = 0) : ∀ x ∈ l, ClaK s l x := by
 have hc := chk_of h
 unfold clausesErr at h
 rw [if_neg (by simp [hc.sch]), if_neg (by have := hc.len; omega)] at h
 by_cases h3 : (firstI (claErr s l) l.length).2 ≠ 0
 ·rw [if_pos h3] at h; exact absurd h h3
 rw [if_neg h3] at h
 by_cases h4 : ¬ Sorts (l.map Cla.dfn)
 ·rw [if_pos h4] at h; simp at h
 rw [if_neg h4] at h
 have h1 := firstI_none l.length (by simpa using h3)
 have h2 := firstI_none l.length h
 intro x hx
 obtain ⟨i, hi, rfl⟩ := List.getElem_of_mem hx
 have g := h1 i hi
 have g2 := h2 i hi
 unfold claErr at g
 unfold claLarge at g2
 rw [getD_clK hi] at g g2
 by_cases q1 : clauseB l[i] = false
 ·rw [if_pos q1] at g; cases g
 rw [if_neg q1] at g
 by_cases q2 : (findAt l l[i].name).getD 0 < i
 ·rw [if_pos q2] at g; cases g
 rw [if_neg q2] at g
 by_cases q3 : (attrAt s l[i].name).isSome
 ·rw [if_pos q3] at g; cases g
 rw [if_neg q3] at g
 by_cases q4 : nodesErr s l l[i].cond ≠ 0
 ·rw [if_pos q4] at g; exact absurd g q4
 rw [if_neg q4] at g
 by_cases q5 : 2000 < expanded l l[i].cond \/ backsLarge l l[i].unl = true
 ·rw [if_pos q5] at g2; cases g2
 simp only [not_or] at q5
 have q1' : clauseB l[i] = true := by simpa using q1
 simp only [clauseB, Bool.and_eq_true, Bool.or_eq_true, decide_eq_true_eq, beq_iff_eq] at q1'
 obtain ⟨⟨⟨⟨⟨a1, a2⟩, _⟩, a4⟩, a5⟩, a6⟩ := q1'
 obtain ⟨e1, e2⟩ := ref_tree a4
 have hw : wbsOkT (Pv s l) l[i].unl /\ l[i].unl.length <= 40 := by
  rcases a5 with a5 | ⟨⟨_, b2⟩, b3⟩
  ·have : l[i].unl = [] := List.eq_nil_of_length_eq_zero a5
   rw [this]
   exact ⟨by unfold wbsOkT; trivial, by simp⟩
  exact wbs_chk _ _ b3 g (by simpa using q5.2) b2
 refine ⟨⟨e1, by simpa using q4, by unfold expanded at q5; omega, e2⟩, hw.1, hw.2, ⟨a1, a2⟩, ?_⟩
 rcases a6 with ⟨b1, b2⟩ | ⟨⟨b1, b2⟩, b3⟩
 ·exact Or.inl ⟨b1, b2⟩
 exact Or.inr ⟨b2, b3⟩
theorem verIn_of {s : List Attr} {l : List Cla} {f : ZI} (h : (clausesErr s l).2 = 0) (hfa : factsAll s f = true) (hsf : ∀ x ∈ s, x.fits) {w0 : World} {sa : OA} {sn sc : Nat} {a : OA} {n c : Nat} {fa : OA} {fn : Nat} (fc : Nat)
  (hs : IsSchema w0 s (.agg #[.slice sa sn sc])) (hl : IsClas w0 l a n c) (hi : IsIntF w0 f fa fn) : VerIn w0 sa sn sc l a n c fa fn fc (valF s l f (l.length + 1)) (Pv s l) where
 tr := fun e x W hW hp he => rTruth_calls s l f (chk_of h) hfa hsf a n c fa fn fc (l.length + 1) 300 e x.val _ W hp.2.2.2 (by omega) hp.1 hp.2.1 hp.2.2.1 (hs.ext hW) (hl.ext hW) he (hi.ext hW)
 cla := hl
 few := by have := hl.len; have := (chk_of h).len; omega
 ok := fun x hx => by
  have hk := claK_of h x hx
  exact ⟨hk.cond, hk.wbs, by have := hk.len; omega⟩
open Go.RowKit Go.Maps
theorem uMapSC : Tryz.prog.underlying 72 = some (.map 9 48) := by kernel_rfl
def clvV (v : ClV) : Value := .agg #[.int .i64 v.kind, .string v.name, .int .i64 v.x.op, .string v.x.name, .slice v.x.aw v.x.nw v.x.cw, .int .i64 v.x.lo, .int .i64 v.x.hi, .slice v.x.aa v.x.na v.x.ca, .slice v.au v.nu v.cu, .int .i64 v.amount]
theorem zeroCl (w : World) : (zeroValue 48).run Tryz.prog w = .ok (.agg #[.int .i64 0, .string ⟨#[]⟩, .int .i64 0, .string ⟨#[]⟩, .slice none 0 0, .int .i64 0, .int .i64 0, .slice none 0 0, .slice none 0 0, .int .i64 0]) w := by kernel_rfl
def DefsGC (w : World) (l : List Cla) (g : BA -> Option Value) : Prop := ∀ s, (defAt l s = none -> g s = none) /\ ∀ d, defAt l s = some d -> ∃ v : ClV, g s = some (clvV v) /\ IsCla w (l.getD d cla0) v
theorem DefsGC.ext {w w' : World} {l : List Cla} {g : BA -> Option Value} (h : DefsGC w l g) (hx : Ext w w') : DefsGC w' l g := fun s => ⟨(h s).1, fun d hd => by obtain ⟨v, h1, h2⟩ := (h s).2 d hd; exact ⟨v, h1, h2.mono hx.sub⟩⟩
theorem DefsGC.skip {w : World} {l : List Cla} {k : Nat} {g : BA -> Option Value} (hk : k < l.length) (h : DefsGC w (l.take k) g) (hs : l[k].kind ≠ 1) : DefsGC w (l.take (k + 1)) g := by
 intro s
 have key : defAt (l.take (k + 1)) s = defAt (l.take k) s := by
  rw [defAt_take hk]
  cases hd : defAt (l.take k) s with
  | some d => rfl
  | none => rw [if_neg]; rintro ⟨h1, h2⟩; exact hs h1
 rw [key]
 refine ⟨(h s).1, fun d hd => ?_⟩
 have : d < k := by have := defAt_lt hd; simp at this; omega
 rw [getD_take (by omega), <- getD_take (k := k) this]
 exact (h s).2 d hd
theorem DefsGC.step {w : World} {l : List Cla} {k : Nat} {g : BA -> Option Value} (hk : k < l.length) (h : DefsGC w (l.take k) g) (hk1 : l[k].kind = 1) (hn : defAt (l.take k) l[k].name = none) {v : ClV} (hv : IsCla w l[k] v) : DefsGC w (l.take (k + 1)) (upS g l[k].name (some (clvV v))) := by
 intro s
 rw [defAt_take hk]
 by_cases e : s = l[k].name
 ·subst e
  rw [hn, upS_same]
  simp only [hk1, and_self, if_true]
  refine ⟨fun h => by simp at h, fun d hd => ?_⟩
  obtain rfl : k = d := by simpa using hd
  rw [getD_take (by omega), getD_cla hk]
  exact ⟨v, rfl, hv⟩
 rw [upS_other _ _ e]
 cases hd : defAt (l.take k) s with
 | none =>
  have : ¬ (l[k].kind = 1 /\ l[k].name = s) := fun h => e h.2.symm
  simp only [if_neg this]
  exact ⟨fun _ => (h s).1 hd, fun d hd' => by cases hd'⟩
 | some d =>
  have hdk : d < k := by have := defAt_lt hd; simp at this; omega
  refine ⟨fun h => by simp at h, fun d' hd' => ?_⟩
  obtain rfl : d = d' := by simpa using hd'
  rw [getD_take (by omega), <- getD_take (k := k) hdk]
  exact (h s).2 d hd
structure IsDLoss (w : World) (s : List Attr) (l : List Cla) (f : ZI) (v : LossV) (n : Nat) : Prop where
 sch : IsSchema w s (.agg #[.slice v.sa v.sn v.sc])
 defs : ∃ g, MapAt w 9 v.bm n (strF g) /\ DefsGC w l g
 ints : IsIntF w f v.fa v.fn
theorem IsDLoss.ext {w w' : World} {s : List Attr} {l : List Cla} {f : ZI} {v : LossV} {n : Nat} (h : IsDLoss w s l f v n) (hx : Ext w w') : IsDLoss w' s l f v n := ⟨h.sch.ext hx, by obtain ⟨g, h1, h2⟩ := h.defs; exact ⟨g, h1.ext hx, h2.ext hx⟩, h.ints.ext hx⟩
noncomputable def decErr (s : List Attr) (l : List Cla) (f : ZI) : Int := if (clausesErr s l).2 ≠ 0 then (clausesErr s l).2 else if factsB s f = false then 16 else 0
def DChkQ (s : List Attr) (l : List Cla) (f : ZI) (n : Nat) (w : World) (r : Ending) (w' : World) : Prop := Ext w w' /\ ((decErr s l f ≠ 0 /\ r = .returned (.tuple #[lossZero, .int .i64 (decErr s l f)])) \/ (decErr s l f = 0 /\ ∃ lv : LossV, r = .returned (.tuple #[lv.val, .int .i64 0]) /\ IsDLoss w' s l f lv n))
theorem dchecked_calls (s : List Attr) (l : List Cla) (f : ZI) (sv : Value) (a : OA) (n c : Nat) (fa : OA) (fn fc : Nat) (w : World) (hs : IsSchema w s sv) (hf : ∀ x ∈ s, x.fits) (hsl : s.length <= 1000000000000000) (hl : IsClas w l a n c) (hn : n <= 1000000) (hok : ∀ x ∈ l, x.fit) (hi : IsIntF w f fa fn) (hfn : fn <= 1000000000000000) (ho : HasOps w) :
  Calls Tryz.prog 27 #[sv, .slice a n c, .slice fa fn fc] w (DChkQ s l f n w) := by
 obtain ⟨sa, sn, sc, rfl, hsn⟩ := hs.slice
 have HCL := hI (fun W (hW : Ext w W) => cClauses_calls s l _ a n c W (hs.ext hW) hf hsl (hl.ext hW) (by omega) hok (ho.ext hW))
 have HFC := hI (fun W (hW : Ext w W) => sValid_calls s _ f fa fn fc W (hs.ext hW) hf hsl (hi.ext hW) hfn)
 have HCK := hI (fun (h1 : (clausesErr s l).2 = 0) => chk_of h1)
 have HL := hI hl
 have HS := hI hs
 have HI := hI hi
 have HSZ := hI (fun x hx => (hok x hx).1)
 have HN := hI hl.len
 obtain ⟨R, hR⟩ : ∃ R, R = decErr s l f := ⟨_, rfl⟩
 unfold DChkQ
 rw [<- hR]
 unfold decErr at hR
 obtain ⟨⟨i0, E1⟩, hE1⟩ : ∃ E : Nat × Int, E = clausesErr s l := ⟨_, rfl⟩
 rw [<- hE1] at HCL hR
 have HCK1 := hI (fun (h1 : E1 = 0) => HCK.out (by rw [<- hE1]; exact h1))
 clear HCK
 obtain ⟨B, hB⟩ : ∃ B, B = factsB s f := ⟨_, rfl⟩
 rw [<- hB] at HFC hR
 have HR := hI hR
 clear hs hf hsl hl hok hi hsn hR hE1 hB ho
 obtain ⟨wa, hwa⟩ : ∃ wa, wa = (w.alloc (.cells #[.slice sa sn sc] 24)).alloc (.cells #[.slice none 0 0, .map none, .slice none 0 0] 74) := ⟨_, rfl⟩
 have hxa : Ext w wa := by rw [hwa]; exact ((Ext.refl _).alloc _).alloc _
 have HB0 := hI (show wa.heap[w.heap.size]? = some (.cells #[.slice sa sn sc] 24 (0, 0)) by rw [hwa]; exact blk_alloc (alloc_new w _))
 have HB2 := hI (show wa.heap[w.heap.size + 1]? = some (.cells #[.slice none 0 0, .map none, .slice none 0 0] 74 (0, 0)) by rw [hwa]; exact alloc_atR (by simp))
 have HXA := hI hxa
 obtain ⟨e0, ef⟩ := blk1 HB0.out
 clear hxa
 unfold clsV at HCL
 go_enter Tryz.func27, Tryz.ntmps27
 go_upto_region 1 with fail
 rw [<- hwa]
 clear hwa
 go_wp2_with fail
 refine (HCL.out wa HXA.out).mono ?_
 rintro r w1 ⟨rfl, hx1⟩
 have HX1 := hI (HXA.out.trans hx1)
 have HB03 := hI (hx1.blk HB0.out)
 have HB23 := hI (hx1.blk HB2.out)
 clear hx1 e0 ef HCL HB0 HB2
 by_cases h1 : E1 = 0
 case neg =>
  have t1 : (E1 != 0) = true := by simp [h1]
  have HQ := hI (show R = E1 by rw [HR.out, if_pos h1])
  have HNZ := hI h1
  clear h1
  obtain ⟨r0, r1, r2, rf⟩ := blk3 HB23.out
  go_wp2_with fail
  obtain ⟨wz, hwz⟩ : ∃ wz, wz = put3 w1 (w.heap.size + 1) (.slice none 0 0) (.map none) (.slice none 0 0) := ⟨_, rfl⟩
  have HZ := hI (show wz.heap[w.heap.size + 1]? = some (.cells #[.slice none 0 0, .map none, .slice none 0 0] 74 (0, 0)) by rw [hwz]; exact put3_blk HB23.out _ _ _)
  have HXZ := hI (show Ext w wz by rw [hwz]; exact (put3_chg w1 (w.heap.size + 1) (.slice none 0 0) (.map none) (.slice none 0 0) (N := [w.heap.size + 1]) (by simp)).ext HX1.out (fun y hy => by simp only [List.mem_singleton] at hy; omega))
  unfold put3 at hwz
  rw [<- hwz]
  clear hwz
  obtain ⟨z0, z1, z2, zf⟩ := blk3 HZ.out
  refine bodyPost_ret (v := .tuple #[lossZero, .int .i64 E1]) (by simp [results, Tryz.results27, go_sem, lossZero, z0, z1, z2]) rfl ?_
  exact ⟨HXZ.out, Or.inl ⟨by rw [HQ.out]; exact HNZ.out, by rw [HQ.out]⟩⟩
 have t1 : (E1 != 0) = false := by simp [h1]
 have HR4 := hI (show R = if B = false then 16 else 0 by rw [HR.out, if_neg (by simpa using h1)])
 have HCK := hI (HCK1.out h1)
 clear h1 HR HCK1
 have HX3 := HX1
 obtain ⟨e0, ef⟩ := blk1 HB03.out
 go_wp2_with fail
 refine (HFC.out w1 HX3.out).mono ?_
 rintro r w4 ⟨rfl, hx4⟩
 have HX4 := hI (HX3.out.trans hx4)
 have HB04 := hI (hx4.blk HB03.out)
 have HB24 := hI (hx4.blk HB23.out)
 clear hx4 e0 ef HFC
 cases B
 case false =>
  have HQ := hI (show R = 16 by rw [HR4.out]; rfl)
  obtain ⟨r0, r1, r2, rf⟩ := blk3 HB24.out
  go_wp2_with fail
  obtain ⟨wz, hwz⟩ : ∃ wz, wz = put3 w4 (w.heap.size + 1) (.slice none 0 0) (.map none) (.slice none 0 0) := ⟨_, rfl⟩
  have HZ := hI (show wz.heap[w.heap.size + 1]? = some (.cells #[.slice none 0 0, .map none, .slice none 0 0] 74 (0, 0)) by rw [hwz]; exact put3_blk HB24.out _ _ _)
  have HXZ := hI (show Ext w wz by rw [hwz]; exact (put3_chg w4 (w.heap.size + 1) (.slice none 0 0) (.map none) (.slice none 0 0) (N := [w.heap.size + 1]) (by simp)).ext HX4.out (fun y hy => by simp only [List.mem_singleton] at hy; omega))
  unfold put3 at hwz
  rw [<- hwz]
  clear hwz
  obtain ⟨z0, z1, z2, zf⟩ := blk3 HZ.out
  refine bodyPost_ret (v := .tuple #[lossZero, .int .i64 16]) (by simp [results, Tryz.results27, go_sem, lossZero, z0, z1, z2]) rfl ?_
  exact ⟨HXZ.out, Or.inl ⟨by rw [HQ.out]; decide, by rw [HQ.out]⟩⟩
 have HQ := hI (show R = 0 by rw [HR4.out]; rfl)
 have hmm := @run_makeMap Tryz.prog
 have HM0 := hI (MapAt.made w4 9)
 have HX0 := hI ((Ext.refl w4).alloc (.map #[] 0))
 obtain ⟨bf, hbf⟩ : ∃ bf : Nat, bf = w4.heap.size := ⟨_, rfl⟩
 have HBF := hI hbf
 have HBW := hI (show w.heap.size + 1 < bf by rw [hbf]; exact blk_lt HB24.out)
 go_wp2_with fail
 rw [<- hbf]
 rw [<- hbf] at HM0
 clear hbf hmm
 go_loopw [31] (fun i wr => ∃ (k : Nat) (g : BA -> Option Value), k <= n /\ i = .int .i64 k /\ MapAt wr 9 bf k (strF g) /\ DefsGC w (l.take k) g /\ wr.heap[w.heap.size]? = some (.cells #[.slice sa sn sc] 24 (0, 0)) /\ wr.heap[w.heap.size + 1]? = some (.cells #[.slice none 0 0, .map none, .slice none 0 0] 74 (0, 0)) /\ Ext w wr) (fun i _ => n - (intOf i).toNat)
 case atStart =>
  refine ⟨0, fun _ => none, by omega, rfl, HM0.out.congr fun x => ?_, fun s => ⟨fun _ => rfl, fun d hd => ?_⟩, HX0.out.blk HB04.out, HX0.out.blk HB24.out, HX4.out.trans HX0.out⟩
  ·cases x <;> simp [strF]
  simp [defAt] at hd
 case round =>
  obtain ⟨k, g, hk, rfl, hmap, hg, hb0, hb2, hx⟩ := hrel
  have HMP := hI hmap
  have HX := hI hx
  have HG := hI hg
  have HBA := hI hb0
  have HBC := hI hb2
  have hbw := hmap.lt
  clear hmap hx hg HM0 HX0 hb0 hb2
  by_cases hlt : k < n
  ·have hlt' : k < l.length := by have := HN.out; omega
   have t1 : decide ((k : Int) < (n : Int)) = true := decide_eq_true (by omega)
   obtain ⟨cb, coff, v, rfl, hcla, hrow⟩ := HL.out.at hlt'
   obtain ⟨c0, c1, c2, c3, c4, c5, c6, c7, c8, c9⟩ := (hrow.mono HX.out.sub).ten
   have hns : v.name.size <= 1000000000000000 := by rw [hcla.2.1]; exact HSZ.out _ (List.getElem_mem hlt')
   have hblt := block_lt c0
   simp only at hblt
   have HEXV := hI hcla
   have HEK := hI (show l[k].kind = v.kind from hcla.1.symm)
   have HEN := hI (show l[k].name = v.name from hcla.2.1.symm)
   have HFR := hI (HCK.out.fresh hlt')
   rw [HEN.out] at HFR
   have HST := hI (fun h1 h2 => HG.out.step hlt' h1 h2 HEXV.out)
   have HSK := hI (HG.out.skip hlt')
   rw [HEK.out, HEN.out] at HST
   rw [HEK.out] at HSK
   clear hcla hrow
   cases hkd : (v.kind == 1)
   ·have HKN := hI (HSK.out (by simpa using hkd))
    go_wp2_with fail
    go_roundw
    case rel =>
     have hxa := (Ext.refl wr).alloc (.cells #[.int .i64 v.kind, .string v.name, .int .i64 v.x.op, .string v.x.name, .slice v.x.aw v.x.nw v.x.cw, .int .i64 v.x.lo, .int .i64 v.x.hi, .slice v.x.aa v.x.na v.x.ca, .slice v.au v.nu v.cu, .int .i64 v.amount] 48)
     exact ⟨k + 1, g, by omega, by go_num, (HMP.out.ext hxa).more (by omega), HKN.out, hxa.blk HBA.out, hxa.blk HBC.out, HX.out.trans hxa⟩
    case measure => simp [intOf]; omega
   have HKN := hI (HST.out (by simpa using hkd) HFR.out)
   go_wp2_with (at_mapUpdate; refine wpList_map_put _ rfl _ _ _ 72 rfl 9 48 keyedStr uMapSC bf k _ rfl (HMP.out.ext ((Ext.refl wr).alloc _)) ?c3 _ _ _ rfl rfl (keyStr hns) trivial ?_)
   case c3 => unfold maxLen; omega
   intro w6 hm1 hc1
   have hxa := (Ext.refl wr).alloc (.cells #[.int .i64 v.kind, .string v.name, .int .i64 v.x.op, .string v.x.name, .slice v.x.aw v.x.nw v.x.cw, .int .i64 v.x.lo, .int .i64 v.x.hi, .slice v.x.aa v.x.na v.x.ca, .slice v.au v.nu v.cu, .int .i64 v.amount] 48)
   have hxm : Ext w w6 := hc1.ext (HX.out.trans hxa) (fun y hy => by simp only [List.mem_singleton] at hy; have := HBW.out; omega)
   have HB06 := hI (hc1.blk (hxa.blk HBA.out) (by have := HBW.out; simp; omega))
   have HB26 := hI (hc1.blk (hxa.blk HBC.out) (by have := HBW.out; simp; omega))
   have HM1 := hI (hm1.congr (setF_str g v.name _))
   have HX1 := hI hxm
   clear hm1 hc1 hxa hxm
   go_wp2_with fail
   go_roundw
   case rel => exact ⟨k + 1, _, by omega, by go_num, HM1.out, HKN.out, HB06.out, HB26.out, HX1.out⟩
   case measure => simp [intOf]; omega
  have t1 : decide ((k : Int) < (n : Int)) = false := decide_eq_false (by omega)
  have HKN := hI (show k = n by omega)
  obtain ⟨e0, ef⟩ := blk1 HBA.out
  obtain ⟨r0, r1, r2, rf⟩ := blk3 HBC.out
  go_wp2_with fail
  obtain ⟨wz, hwz⟩ : ∃ wz, wz = put3 wr (w.heap.size + 1) (.slice sa sn sc) (.map (some bf)) (.slice fa fn fc) := ⟨_, rfl⟩
  have HZ := hI (show wz.heap[w.heap.size + 1]? = some (.cells #[.slice sa sn sc, .map (some bf), .slice fa fn fc] 74 (0, 0)) by rw [hwz]; exact put3_blk HBC.out _ _ _)
  have hcz : Chg [w.heap.size + 1] wr wz := by rw [hwz]; exact put3_chg wr (w.heap.size + 1) (.slice sa sn sc) (.map (some bf)) (.slice fa fn fc) (by simp)
  have HXZ := hI (hcz.ext HX.out (fun y hy => by simp only [List.mem_singleton] at hy; omega))
  have HLZ := hI (show IsDLoss wz s l f ⟨sa, sn, sc, bf, fa, fn, fc⟩ n from ⟨HS.out.ext HXZ.out, by
   exact ⟨g, by rw [<- HKN.out]; exact HMP.out.chg hcz (by have := HBW.out; simp; omega), by have := HG.out.ext HXZ.out; rwa [List.take_of_length_le (by have := HN.out; omega)] at this⟩, HI.out.ext HXZ.out⟩)
  unfold put3 at hwz
  rw [<- hwz]
  clear hwz hcz
  obtain ⟨z0, z1, z2, zf⟩ := blk3 HZ.out
  refine bodyPost_ret (v := .tuple #[LossV.val ⟨sa, sn, sc, bf, fa, fn, fc⟩, .int .i64 0]) (by simp [results, Tryz.results27, go_sem, LossV.val, z0, z1, z2]) rfl ?_
  exact ⟨HXZ.out, Or.inr ⟨by rw [HQ.out], _, rfl, HLZ.out⟩⟩
theorem Used.top_of {l : List Cla} {e : Ex} {u : List Cla} (h : Used l e u) (hx : expanded l e <= 2000) : Sorts (u.map Cla.dfn) := by
 -- a longest list of definitions in order
 have hmax : ∀ k, ∀ o, RInv (u.map Cla.dfn) o -> countOf (u.map Cla.dfn) - o.length <= k -> ∃ o, RInv (u.map Cla.dfn) o /\ ∀ i, isDef (u.map Cla.dfn) i = true -> i ∉ o -> missL (u.map Cla.dfn) o i ≠ [] := by
  intro k
  induction k with
  | zero =>
   intro o ho hk
   refine ⟨o, ho, fun i hd hi => ?_⟩
   have := ho.lt hd hi
   omega
  | succ k ih =>
   intro o ho hk
   by_cases hs : ∀ i, isDef (u.map Cla.dfn) i = true -> i ∉ o -> missL (u.map Cla.dfn) o i ≠ []
   ·exact ⟨o, ho, hs⟩
   obtain ⟨i, hd, hi, hm⟩ : ∃ i, isDef (u.map Cla.dfn) i = true /\ i ∉ o /\ missL (u.map Cla.dfn) o i = [] := by
    refine Classical.byContradiction fun hn => hs fun i h1 h2 h3 => hn ⟨i, h1, h2, h3⟩
   refine ih (o ++ [i]) (ho.snoc hd hi hm) ?_
   have := ho.lt hd hi
   simp only [List.length_append, List.length_singleton]
   omega
 obtain ⟨o, ho, hs⟩ := hmax _ [] (RInv.start _) (Nat.le_refl _)
 refine ⟨o, ho.done fun i hd => Classical.byContradiction fun hi => ?_⟩
 have hbad : ∀ f i, (hi : i < u.length) -> i ∉ o -> expF u f u[i].cond = 2001 := by
  intro f
  induction f with
  | zero => intro i _ _; rfl
  | succ f ih =>
   intro i hi hio
   have hdef : isDef (u.map Cla.dfn) i = true := by rw [isDef_dfn hi, (h.defs _ (List.getElem_mem hi)).1]; rfl
   obtain ⟨s, hs⟩ := List.exists_mem_of_ne_nil _ (hs i hdef hio)
   obtain ⟨h1, d, h2, h3⟩ := mem_miss.1 hs
   rw [usesAt_dfn hi, refNames_mem] at h1
   rw [firstAt_dfn] at h2
   have hdl := defAt_lt h2
   refine expF_ge h1 h2 ?_
   rw [getD_cla hdl]
   exact ih d hdl h3
 have hil : i < u.length := by simpa using isDef_lt hd
 obtain ⟨_, d, h1, h2, h3⟩ := h.defs _ (List.getElem_mem hil)
 have := h3.large (fun f => by
  rw [<- h2, <- h.same f u[i].cond (h.closed _ (List.getElem_mem hil))]
  exact hbad f i hil hi) (l.length + 1)
 unfold expanded at hx
 omega
theorem Used.size {l : List Cla} {e : Ex} {u : List Cla} (h : Used l e u) (hs : Sorts (u.map Cla.dfn)) {x : Ex} (hx : ∀ s ∈ namesE x, ∀ d, Proofs.YtefjomofjejklaaGreatDoor.defAt l s = some d -> s ∈ u.map (·.name)) : expanded u x = expanded l x := by
 obtain ⟨o, ht⟩ := hs
 unfold expanded
 rw [<- h.same (l.length + 1) x hx, expF, expF]
 refine expE_congr _ fun s hs => ?_
 cases hd : Proofs.YtefjomofjejklaaGreatDoor.defAt u s with
 | none => rfl
 | some i =>
  have hi := defAt_lt hd
  have hio : i ∈ o := (ht.all i).2 (by rw [isDef_dfn hi, (h.defs _ (List.getElem_mem hi)).1]; rfl)
  obtain ⟨q, hq⟩ := List.mem_iff_getElem?.1 hio
  have hql : q < o.length := (List.getElem?_eq_some_iff.1 hq).1
  have h1 := ht.len
  have h2 := h.len
  simp only [List.length_map] at h1
  simp only [Option.map_some, Option.some.injEq]
  exact expF_stable ht q i hq _ _ (by omega) (by omega)
theorem Used.valF {l : List Cla} {e : Ex} {u : List Cla} (h : Used l e u) (s : List Attr) (f : ZI) : ∀ k x, (∀ t ∈ namesE x, ∀ d, Proofs.YtefjomofjejklaaGreatDoor.defAt l t = some d -> t ∈ u.map (·.name)) -> Proofs.YtefjomofjejklaaGreatDoor.valF s u f k x = Proofs.YtefjomofjejklaaGreatDoor.valF s l f k x := by
 intro k
 induction k with
 | zero => intro x _; rfl
 | succ k ih =>
  intro x hx
  rw [Proofs.YtefjomofjejklaaGreatDoor.valF, Proofs.YtefjomofjejklaaGreatDoor.valF]
  refine valE_congr _ fun t ht => ?_
  cases hd : Proofs.YtefjomofjejklaaGreatDoor.defAt l t with
  | none => rw [h.only hd]; rfl
  | some d =>
   obtain ⟨i, d', hi, h1, h2, h3⟩ := h.at (hx t ht d hd)
   rw [hd] at h2
   cases h2
   rw [h1]
   simp only [Option.map_some, h3, Option.some.injEq]
   refine ih _ fun t2 ht2 d2 hd2 => ?_
   rw [<- h3, getD_cla hi] at ht2
   exact h.closed _ (List.getElem_mem hi) t2 ht2 d2 hd2
theorem Used.nodes {l : List Cla} {e : Ex} {u : List Cla} (h : Used l e u) (s : List Attr) : (x : Ex) -> (∀ t ∈ namesE x, ∀ d, Proofs.YtefjomofjejklaaGreatDoor.defAt l t = some d -> t ∈ u.map (·.name)) -> nodesErr s u x = nodesErr s l x
 | .mk op name words lo hi args, hx => by
  have hn : nodeErr s u op name words lo hi = nodeErr s l op name words lo hi := by
   unfold nodeErr
   by_cases h3 : op = 3
   ·rw [if_pos h3, if_pos h3]
    cases attrAt s name with
    | some i => rfl
    | none =>
     cases hd : Proofs.YtefjomofjejklaaGreatDoor.defAt l name with
     | none => rw [h.only hd]
     | some d =>
      obtain ⟨i, _, _, h1, _⟩ := h.at (hx name (by rw [namesE, h3]; simp) d hd)
      rw [h1]
      rfl
   rw [if_neg h3, if_neg h3]
  rw [nodesErr, nodesErr, hn, nodesL args fun t ht => hx t (by rw [namesE]; exact List.mem_append_right _ ht)]
where
 nodesL : (r : List Ex) -> (∀ t ∈ namesL r, ∀ d, Proofs.YtefjomofjejklaaGreatDoor.defAt l t = some d -> t ∈ u.map (·.name)) -> nodesErrL s u r = nodesErrL s l r
  | [], _ => by rw [nodesErrL, nodesErrL]
  | x :: r, hx => by
   rw [nodesErrL, nodesErrL, Used.nodes h s x fun t ht => hx t (by rw [namesL]; exact List.mem_append_left _ ht), nodesL r fun t ht => hx t (by rw [namesL]; exact List.mem_append_right _ ht)]
theorem clsB_of {s : List Attr} {l : List Cla} (h : (clausesErr s l).2 = 0) : ∀ c ∈ l, clauseB c = true := by
 have hc := chk_of h
 unfold clausesErr at h
 rw [if_neg (by simp [hc.sch]), if_neg (by have := hc.len; omega)] at h
 by_cases h3 : (firstI (claErr s l) l.length).2 ≠ 0
 ·rw [if_pos h3] at h; exact absurd h h3
 have h1 := firstI_none l.length (by simpa using h3)
 intro c hc
 obtain ⟨i, hi, rfl⟩ := List.getElem_of_mem hc
 have g := h1 i hi
 unfold claErr at g
 rw [getD_clK hi] at g
 by_cases q1 : clauseB l[i] = false
 ·rw [if_pos q1] at g; cases g
 simpa using q1
def UsedC (l : List Cla) (e : Ex) (u : List Cla) : Prop := Used l e u /\ ∀ c ∈ u, c ∈ l
theorem UsedC.err {s : List Attr} {l : List Cla} {e : Ex} {u : List Cla} (h : UsedC l e u) (hc : (clausesErr s l).2 = 0) (hx : expanded l e <= 2000) : (clausesErr s u).2 = 0 := by
 obtain ⟨hu, hm⟩ := h
 have hck := chk_of hc
 have hss := hu.top_of hx
 have hlen : u.length <= l.length := hu.len
 -- what is known of a definition
 have hdf : ∀ c ∈ u, clauseB c = true /\ attrAt s c.name = none /\ nodesErr s l c.cond = 0 /\ c.unl = [] /\ expanded l c.cond <= 2000 := by
  intro c hcu
  obtain ⟨q1, q2, q3, q4, q5⟩ := hck.good c (hm c hcu)
  have hcb := (clsB_of hc) c (hm c hcu)
  have hk := (hu.defs c hcu).1
  refine ⟨hcb, q5, q2, ?_, hck.exp c (hm c hcu)⟩
  simp only [clauseB, Bool.and_eq_true, Bool.or_eq_true, decide_eq_true_eq, beq_iff_eq] at hcb
  obtain ⟨⟨_, a5⟩, _⟩ := hcb
  rcases a5 with a5 | ⟨⟨b1, _⟩, _⟩
  ·exact List.eq_nil_of_length_eq_zero a5
  omega
 have hz : ∀ i, i < u.length -> claErr s u i = 0 := by
  intro i hi
  have hcu := List.getElem_mem hi
  obtain ⟨q1, q2, q3, q4, q5⟩ := hdf _ hcu
  unfold claErr
  rw [getD_cla hi]
  rw [if_neg (by simp [q1]), if_neg ?_, if_neg (by simp [q2]), if_neg ?_, q4]
  ·rw [backsErr]
  ·rw [hu.nodes s u[i].cond (hu.closed _ hcu), q3]; simp
  -- the first with that name
  have : findAt u u[i].name = some i := by
   unfold findAt
   rw [List.findIdx?_eq_some_iff_getElem]
   refine ⟨hi, by simp, fun j hj => ?_⟩
   have := (List.pairwise_iff_getElem.1 hu.names) j i (by simp; omega) (by simpa using hi) hj
   simpa using this
  rw [this]
  simp
 have hg : ∀ i, i < u.length -> claLarge u i = 0 := by
  intro i hi
  have hcu := List.getElem_mem hi
  obtain ⟨_, _, _, q4, q5⟩ := hdf _ hcu
  unfold claLarge
  rw [getD_cla hi, q4, hu.size hss (hu.closed _ hcu), if_neg]
  rw [backsLarge]
  simp; omega
 unfold clausesErr
 rw [if_neg (by simp [hck.sch]), if_neg (by have := hck.len; omega), firstI_zero _ hz]
 rw [if_neg (by simp), if_neg (by simp [hss]), firstI_zero _ hg]
theorem UsedC.eval {s : List Attr} {l : List Cla} {e : Ex} {u : List Cla} {f : ZI} (h : UsedC l e u) (hc : (clausesErr s l).2 = 0) (hr : refExprB e = true) (hn : nodesErr s l e = 0) (hx : expanded l e <= 2000) (hf : factsB s f = true) : evalErr s u e f = 0 /\ val s u f e = val s l f e := by
 have h1 := h.err hc hx
 obtain ⟨hu, hm⟩ := h
 have hss := hu.top_of hx
 have hsz := hu.size hss hu.top
 have hck := chk_of hc
 refine ⟨?_, ?_⟩
 ·unfold evalErr
  rw [if_neg (by simp [h1]), if_neg ?_, if_neg (by omega), if_neg (by simp [hf])]
  unfold exprErr
  rw [if_neg (by simp [hck.sch]), exprnErr, if_neg (by simp [hr]), hu.nodes s e hu.top, hn]
  simp
 unfold val
 have hle := hu.len
 rw [valF_stable s u f (u.length + 1) (l.length + 1) e (by unfold expanded at hsz hx; omega) (by omega), hu.valF s f (l.length + 1) e hu.top]
end Go.Proofs.YtefjomofjejklaaGreatDoor
