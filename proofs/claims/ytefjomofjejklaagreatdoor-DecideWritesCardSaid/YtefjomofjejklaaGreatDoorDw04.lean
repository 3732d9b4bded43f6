/-
  Texts of the claim, joined: Truth, VrIn, Exp2, CExp1, Defs, CNode.
-/
import Derived.Test.YtefjomofjejklaaGreatDoorDw03
import Derived.Deep.CutBlock
import Derived.Shelf.SlicesQ.Reverse
import Derived.RangeFuncNested
import Derived.RangeFuncBound
import Derived.RangeFuncCalls
import Derived.RangeFuncLeaves
import Derived.RangeFuncBox
import Derived.Shelf.Abstract
import Derived.Shelf.RegionOpen
import Derived.OwnWalkIn
import Derived.TacticsInMore
import Derived.LoopNIn
import Derived.LoopIn
import Derived.Maps.OwnIn
namespace Go.Proofs.YtefjomofjejklaaGreatDoor
set_option maxRecDepth 100000
set_option maxHeartbeats 32000000
open Go.RowKit
def valsOf (s : List Attr) (l : List Cla) (f : ZI) (g : Nat) : BA -> Option Bool := fun x => (defAt l x).map fun d => valF s l f g (l.getD d cla0).cond
theorem valF_eq (s : List Attr) (l : List Cla) (f : ZI) (g : Nat) (e : Ex) : valF s l f (g + 1) e = valE s f (valsOf s l f g) e := rfl
def TruthN (s : List Attr) (f : ZI) (V : BA -> Option Bool) (args : List Ex) (na : Nat) (bs : Nat) (o0 o1 : Obj) (w : World) (t i : Value) (wr : World) : Prop := ∃ k q : Nat, i = .int .i64 k /\ t = .int .i64 q /\ k <= na /\ q <= k /\ (q = k ↔ ∀ j (h : j < args.length), j < k -> valE s f V args[j] = true) /\ wr.heap[bs]? = some o0 /\ wr.heap[bs + 1]? = some o1 /\ Ext w wr
def TruthA (s : List Attr) (f : ZI) (V : BA -> Option Bool) (args : List Ex) (na : Nat) (bs : Nat) (o0 o1 : Obj) (w : World) (i : Value) (wr : World) : Prop := ∃ k : Nat, i = .int .i64 k /\ k <= na /\ (∀ j (h : j < args.length), j < k -> valE s f V args[j] = false) /\ wr.heap[bs]? = some o0 /\ wr.heap[bs + 1]? = some o1 /\ Ext w wr
theorem rTruth_calls (s : List Attr) (l : List Cla) (f : ZI) (hc : Chk s l) (hfa : factsAll s f = true) (hsf : ∀ x ∈ s, x.fits) (a : OA) (n c : Nat) (fa : OA) (fn fc : Nat) : ∀ (g m : Nat) (e : Ex) (ev sv : Value) (w : World), e.size <= m -> m <= 1000000 -> okTree e -> nodesErr s l e = 0 -> expF l g e <= 2000 -> IsSchema w s sv -> IsClas w l a n c -> IsEx w e ev -> IsIntF w f fa fn ->
  Calls Tryz.prog 127 #[sv, .slice a n c, ev, .slice fa fn fc] w (GivesE (.bool (valF s l f g e)) w) := by
 intro g
 induction g with
 | zero => intro m e ev sv w _ _ _ _ h; simp [expF] at h
 | succ g ihg =>
  intro m
  induction m with
  | zero => intro e ev sv w h; have := size_pos e; omega
  | succ m ihm =>
   intro e ev sv w hm hMM hok hnd hex hs hl he hi
   have hways := node_ways hok hnd
   obtain ⟨-, hnda⟩ := nodes_parts hnd
   obtain ⟨hokn, hoka⟩ := okTree_parts hok
   have hexa := expE_arg (D := dOf l g) (e := e) (by rw [<- expF_succ]; exact hex)
   have hexh := expE_hd (D := dOf l g) (e := e) (by rw [<- expF_succ]; exact hex)
   obtain ⟨sa, sn, sc, rfl, hsn⟩ := hs.slice
   obtain ⟨aw, nw, cw, aa, na, ca, rfl, hw, hna, hca, ha, hx⟩ := he.parts
   have hS : e.size = 1 + sizes e.args := e.size_eq
   have hla := length_le_sizes e.args
   obtain ⟨op, name, words, lo, hi', args⟩ := e
   simp only [Ex.op, Ex.name, Ex.words, Ex.lo, Ex.hi, Ex.args] at *
   have hna2 : na <= 1000000 := by omega
   have hszm : sizes args <= m := by omega
   obtain ⟨R, hR⟩ : ∃ R, R = valF s l f (g + 1) (.mk op name words lo hi' args) := ⟨_, rfl⟩
   rw [<- hR]
   rw [valF_eq, valE] at hR
   have HR := hI hR
   have hsl6 := (schema_attrs hc.sch).2.1
   have hsn2 : sn <= 6 := by omega
   have hln := hl.len
   have hn100 : n <= 100 := by rw [hln]; exact hc.len
   have HSN := hI hsn
   have HLN := hI hln
   have HC := hI hc
   have HFA := hI hfa
   have HSF := hI hsf
   have HS := hI hs
   have HL := hI hl
   have HX := hI hx
   have HW := hI hw
   have HI := hI hi
   have HNA := hI hna
   have HARG := hI (fun (j : Nat) (hj : j < args.length) (xv : Value) (W : World) (hW : Ext w W) (hxv : IsEx W args[j] xv) => ihm args[j] xv (.agg #[.slice sa sn sc]) W (by have h1 := sizes_take_succ args j hj; have h2 := sizes_take_le args (j + 1); omega) (by omega) (hoka _ (List.getElem_mem hj)) (hnda j hj) (by rw [expF_succ]; exact hexa j hj) (hs.ext hW) (hl.ext hW) hxv (hi.ext hW))
   have HDEF := hI (fun (h3 : op = 3) (d : Nat) (hd : defAt l name = some d) (xv : Value) (W : World) (hW : Ext w W) (hxv : IsEx W (l.getD d cla0).cond xv) => ihg 300 (l.getD d cla0).cond xv (.agg #[.slice sa sn sc]) W (hc.cond (defAt_atK hd).1).2.2 (by omega) (hc.cond (defAt_atK hd).1).1 (hc.cond (defAt_atK hd).1).2.1 (hexh h3 (by unfold dOf; rw [hd]; rfl)) (hs.ext hW) (hl.ext hW) hxv (hi.ext hW))
   have HWD := hI (show op = 4 -> words.length <= 12 from fun h4 => by
    rcases hokn with ⟨h1, -⟩ | ⟨h1, -⟩ | ⟨h1, -⟩ | ⟨h1, -, h2, -⟩ | ⟨h1, -⟩ | ⟨h1, -⟩ | ⟨h1, -⟩ <;> simp only [Ex.op] at h1
    all_goals first | omega | skip
    simp only [Ex.words, wordsB, Bool.and_eq_true] at h2
    exact of_decide_eq_true h2.1.1.2)
   clear hc hfa hsf hs hl hx hw hi hna hca ha hS hla ihg ihm hm hnda hoka hexa hexh hokn hok hnd hex he hsn hln hsl6 hR
   unfold exV
   obtain ⟨wa, hwa⟩ : ∃ wa, wa = (w.alloc (.cells #[.slice sa sn sc] 24)).alloc (.cells #[.int .i64 op, .string name, .slice aw nw cw, .int .i64 lo, .int .i64 hi', .slice aa na ca] 45) := ⟨_, rfl⟩
   have hxa : Ext w wa := by rw [hwa]; exact ((Ext.refl _).alloc _).alloc _
   have hb0 : wa.heap[w.heap.size]? = some (.cells #[.slice sa sn sc] 24 (0, 0)) := by rw [hwa]; exact blk_alloc (alloc_new w _)
   have hb1 : wa.heap[w.heap.size + 1]? = some (.cells #[.int .i64 op, .string name, .slice aw nw cw, .int .i64 lo, .int .i64 hi', .slice aa na ca] 45 (0, 0)) := by rw [hwa]; exact alloc_atR (by simp)
   have HXA := hI hxa
   have HB0 := hI hb0
   have HB1 := hI hb1
   obtain ⟨f0, f1, f2, f3, f4, f5, ff⟩ := blk6 hb1
   obtain ⟨e0, ef⟩ := blk1 hb0
   have hltw := blk_lt hb1
   have HIX := hI (rIndex_calls s _ name wa (HS.out.ext hxa) (by have := HSN.out; omega))
   clear hxa hb0 hb1
   rcases hways with rfl | rfl | ⟨rfl, i, hat, hkd⟩ | ⟨rfl, hat, d, hdf⟩ | ⟨rfl, i, hat, hkd⟩ | ⟨rfl, i, hat, hkd⟩ | ⟨rfl, hl1⟩ | rfl | rfl
   -- true
   ·have HQ := hI (show R = true by rw [HR.out]; simp [factV])
    go_enter Tryz.func127, Tryz.ntmps127
    go_upto_region 1 with fail
    rw [<- hwa]
    clear hwa
    go_wp2_with fail
    refine HIX.out.mono ?_
    rintro r w1 ⟨rfl, hx1⟩
    have HX1 := hI (HXA.out.trans hx1)
    unfold optV
    clear f0 f1 f2 f3 f4 f5 ff e0 ef hltw
    obtain ⟨f0, f1, f2, f3, f4, f5, ff⟩ := blk6 (hx1.blk HB1.out)
    clear hx1
    go_wp2_with fail
    go_ret
    exact givesE_bool (by rw [HQ.out]) HX1.out
   -- false
   ·have HQ := hI (show R = false by rw [HR.out]; simp [factV])
    go_enter Tryz.func127, Tryz.ntmps127
    go_upto_region 1 with fail
    rw [<- hwa]
    clear hwa
    go_wp2_with fail
    refine HIX.out.mono ?_
    rintro r w1 ⟨rfl, hx1⟩
    have HX1 := hI (HXA.out.trans hx1)
    unfold optV
    clear f0 f1 f2 f3 f4 f5 ff e0 ef hltw
    obtain ⟨f0, f1, f2, f3, f4, f5, ff⟩ := blk6 (hx1.blk HB1.out)
    clear hx1
    go_wp2_with fail
    go_ret
    exact givesE_bool (by rw [HQ.out]) HX1.out
   -- an attribute
   ·obtain ⟨his, -⟩ := attrAt_at hat
    obtain ⟨hif, hlo2, hhi2⟩ := fact_at HFA.out his
    obtain ⟨fb, fo, rfl, hcell⟩ := HI.out.2 i hif
    obtain ⟨z, hz⟩ : ∃ z, z = f[i] := ⟨_, rfl⟩
    rw [<- hz] at hcell
    have hdn : defAt l name = none := by
     cases hd : defAt l name with
     | none => rfl
     | some d => rw [HC.out.apart hd] at hat; cases hat
    have HQ := hI (show R = (z == 1) by
     rw [HR.out]
     simp only [factV, valsOf, hdn, hat]
     rw [Bool.eq_iff_iff]; simp [hif, <- hz])
    have hin : i < fn := by rw [HI.out.1]; exact hif
    have HCF := hI hcell
    rw [hat, optV_some] at HIX
    clear hat hkd his hif hlo2 hhi2 hcell hz hdn
    go_enter Tryz.func127, Tryz.ntmps127
    go_upto_region 1 with fail
    rw [<- hwa]
    clear hwa
    go_wp2_with fail
    refine HIX.out.mono ?_
    rintro r w1 ⟨rfl, hx1⟩
    have HX1 := hI (HXA.out.trans hx1)
    clear f0 f1 f2 f3 f4 f5 ff e0 ef hltw
    obtain ⟨f0, f1, f2, f3, f4, f5, ff⟩ := blk6 (hx1.blk HB1.out)
    have hcf := HX1.out.cell HCF.out
    clear hx1
    go_wp2_with fail
    go_ret
    exact givesE_bool (by rw [HQ.out]) HX1.out
   -- a definition
   ·have hdl := (defAt_atK hdf).1
    have HQ := hI (show R = valF s l f g (l.getD d cla0).cond by
     rw [HR.out]
     rw [if_neg (by decide), if_neg (by decide), if_neg (by decide), if_pos rfl, valsOf, hdf]; rfl)
    have hdn : d < n := by rw [HLN.out]; exact hdl
    have HDC := hI (fun W (hW : Ext w W) => rDef_calls l a n c name W (HL.out.ext hW) (by omega))
    rw [hdf] at HDC
    obtain ⟨cb, coff, v, rfl, hcla, hrow⟩ := HL.out.at hdl
    have HRW := hI hrow
    have HCX := hI (show IsEx w (l.getD d cla0).cond v.x.val by rw [getD_clK hdl]; exact hcla.2.2.1)
    have HDF := hI (HDEF.out rfl d hdf)
    obtain ⟨V, hV⟩ : ∃ V, V = valF s l f g (l.getD d cla0).cond := ⟨_, rfl⟩
    rw [<- hV] at HQ HDF
    rw [hat, optV_none] at HIX
    clear hV hat hdf hdl hcla hrow HDEF HARG
    go_enter Tryz.func127, Tryz.ntmps127
    go_upto_region 1 with fail
    rw [<- hwa]
    clear hwa
    go_wp2_with fail
    refine HIX.out.mono ?_
    rintro r w1 ⟨rfl, hx1⟩
    have HX1 := hI (HXA.out.trans hx1)
    have HB11 := hI (hx1.blk HB1.out)
    have HB01 := hI (hx1.blk HB0.out)
    clear f0 f1 f2 f3 f4 f5 ff e0 ef hltw
    obtain ⟨f0, f1, f2, f3, f4, f5, ff⟩ := blk6 HB11.out
    clear hx1
    go_wp2_with fail
    refine (HDC.out w1 HX1.out).mono ?_
    rintro r w2 ⟨rfl, rfl⟩
    rw [optV_some]
    obtain ⟨e0, ef⟩ := blk1 HB01.out
    obtain ⟨c0, c1, c2, c3, c4, c5, c6, c7, c8, c9⟩ := (HRW.out.mono HX1.out.sub).ten
    go_wp2_with fail
    go_still_tail 8, (by kernel_rfl)
    change wpList _ _ _ _ _ w1.drew
    have hx2 : Ext w1 w1.drew := (Ext.refl w1).drew
    generalize w1.drew = w2 at hx2 ⊢
    have HX2 := hI (HX1.out.trans hx2)
    clear hx2 c0 c1 c2 c3 c4 c5 c6 c7 c8 c9 f0 f1 f2 f3 f4 f5 ff e0 ef
    have HDG := hI (HDF.out v.x.val w2 HX2.out (HCX.out.ext HX2.out))
    unfold ExV.val exV at HDG
    go_wp2_with fail
    refine HDG.out.mono ?_
    rintro r w3 ⟨rfl, hx3⟩
    have HX3 := hI (HX2.out.trans hx3)
    clear hx3
    go_wp2_with fail
    go_ret
    exact givesE_bool (by rw [HQ.out]) HX3.out
   -- a word
   ·obtain ⟨his, -⟩ := attrAt_at hat
    obtain ⟨hif, hlo2, hhi2⟩ := fact_at HFA.out his
    have hkd' : s[i].kind = 1 := by rw [<- hkd]; simp [his]
    have hdm : domB s[i] = (0, (s[i].words.length : Int) - 1) := by unfold domB; rw [if_pos hkd']
    rw [hdm] at hlo2 hhi2
    simp only at hlo2 hhi2
    obtain ⟨ab, ao, rfl, hA⟩ : ∃ ab ao, sa = some ⟨ab, ao, none⟩ /\ AttrAt w s[i] ab (ao + i * 5) := by
     obtain ⟨xa, xn, xc, e', -, -, -, hq⟩ := HS.out.parts
     simp only [Value.agg.injEq, Array.mk.injEq, List.cons.injEq, Value.slice.injEq, and_true] at e'
     obtain ⟨rfl, rfl, rfl⟩ := e'
     exact hq i his
    obtain ⟨x1, hx1⟩ : ∃ x1, x1 = s[i] := ⟨_, rfl⟩
    rw [<- hx1] at hA hkd' hhi2
    obtain ⟨bw, nwa, cwa, hstr, hfive⟩ := hA.five
    have H5 := hI hfive
    obtain ⟨fb, fo, rfl, hcell⟩ := HI.out.2 i hif
    obtain ⟨z, hz⟩ : ∃ z : Nat, f[i] = (z : Int) := ⟨f[i].toNat, by omega⟩
    rw [hz] at hcell hlo2 hhi2
    have hzw : z < x1.words.length := by omega
    obtain ⟨wb, wo, rfl, hwc⟩ := hstr.2.2.2 z hzw
    have HWC := hI hwc
    have hzn : z < nwa := by rw [hstr.1]; exact hzw
    have HQ := hI (show R = words.any (fun y => decide (y = x1.words[z])) by
     rw [HR.out]
     simp only [factV, hat]
     rw [if_neg (by decide), if_neg (by decide), if_neg (by decide), if_neg (by decide), if_neg (by decide), if_neg (by decide), if_pos (by decide)]
     simp [his, hif, hz, <- hx1, hzw])
    have hin : i < fn := by rw [HI.out.1]; exact hif
    have hisn : i < sn := by rw [HSN.out]; exact his
    have HCF := hI hcell
    have HWI := hI (fun W (hW : Ext w W) => rWithin_calls words aw nw cw x1.words[z] W (HW.out.ext hW) (by have := HWD.out rfl; rw [HW.out.1]; omega))
    rw [hat, optV_some] at HIX
    obtain ⟨x, hxx⟩ : ∃ x, x = x1.words[z] := ⟨_, rfl⟩
    rw [<- hxx] at HWC HQ HWI
    clear hx1 hat hkd his hif hlo2 hhi2 hcell hz hkd' hdm hA hstr hfive hwc hzw hxx HARG HDEF
    go_enter Tryz.func127, Tryz.ntmps127
    go_upto_region 1 with fail
    rw [<- hwa]
    clear hwa
    go_wp2_with fail
    refine HIX.out.mono ?_
    rintro r w1 ⟨rfl, hx1⟩
    have HX1 := hI (HXA.out.trans hx1)
    clear f0 f1 f2 f3 f4 f5 ff e0 ef hltw
    obtain ⟨f0, f1, f2, f3, f4, f5, ff⟩ := blk6 (hx1.blk HB1.out)
    obtain ⟨e0, ef⟩ := blk1 (hx1.blk HB0.out)
    have hcf := HX1.out.cell HCF.out
    have hwf := HX1.out.cell HWC.out
    obtain ⟨g0, g1, g2, g3, g4⟩ := H5.out w1 HX1.out
    clear hx1
    go_wp2_with fail
    go_still_tail 14, (by kernel_rfl)
    change wpList _ _ _ _ _ w1.drew
    have hx2 : Ext w1 w1.drew := (Ext.refl w1).drew
    generalize w1.drew = w2 at hx2 ⊢
    have HX2 := hI (HX1.out.trans hx2)
    clear hx2 f0 f1 f2 f3 f4 f5 ff e0 ef hcf hwf g0 g1 g2 g3 g4
    go_wp2_with fail
    refine (HWI.out w2 HX2.out).mono ?_
    rintro r w3 ⟨rfl, rfl⟩
    go_wp2_with fail
    go_ret
    exact givesE_bool (by rw [HQ.out]) HX2.out
   -- a number
   ·obtain ⟨his, -⟩ := attrAt_at hat
    obtain ⟨hif, -, -⟩ := fact_at HFA.out his
    obtain ⟨fb, fo, rfl, hcell⟩ := HI.out.2 i hif
    obtain ⟨z, hz⟩ : ∃ z, z = f[i] := ⟨_, rfl⟩
    rw [<- hz] at hcell
    have HQ := hI (show R = (decide (lo <= z) && decide (z <= hi')) by
     rw [HR.out]
     simp only [factV, hat]
     rw [if_neg (by decide), if_neg (by decide), if_neg (by decide), if_neg (by decide), if_neg (by decide), if_neg (by decide), if_neg (by decide), if_pos (by decide)]
     simp [hif, <- hz])
    have hin : i < fn := by rw [HI.out.1]; exact hif
    have HCF := hI hcell
    rw [hat, optV_some] at HIX
    clear hat hkd his hif hcell hz HARG HDEF
    have hw4 : (decide (lo <= z) = true /\ decide (z <= hi') = true /\ R = true) \/ (decide (lo <= z) = true /\ decide (z <= hi') = false /\ R = false) \/ (decide (lo <= z) = false /\ R = false) := by
     rw [HQ.out]
     cases decide (lo <= z) <;> cases decide (z <= hi') <;> simp
    rcases hw4 with ⟨t1, t2, hf⟩ | ⟨t1, t2, hf⟩ | ⟨t1, hf⟩
    all_goals
     have HF := hI hf
     clear hf
     go_enter Tryz.func127, Tryz.ntmps127
     go_upto_region 1 with fail
     rw [<- hwa]
     clear hwa
     go_wp2_with fail
     refine HIX.out.mono ?_
     rintro r w1 ⟨rfl, hx1⟩
     have HX1 := hI (HXA.out.trans hx1)
     clear f0 f1 f2 f3 f4 f5 ff e0 ef hltw
     obtain ⟨f0, f1, f2, f3, f4, f5, ff⟩ := blk6 (hx1.blk HB1.out)
     have hcf := HX1.out.cell HCF.out
     clear hx1
     go_wp2_with fail
     go_quiet (fail)
     go_wp2_with fail
     go_ret
     exact givesE_bool (by rw [HF.out]) (HX1.out.drewN _)
   -- not
   ·have hj : 0 < args.length := by omega
    have HQ := hI (show R = !(valF s l f (g + 1) args[0]) by
     rw [HR.out, if_pos rfl, valHd_at, List.getElem?_eq_getElem hj]; rfl)
    have hnp : 0 < na := by have := HNA.out; omega
    have HXJ := hI (fun W (hW : Ext w W) => ExsD.at args _ (ExsD.ext hW args _ HX.out) 0 hj)
    have HA0 := hI (HARG.out 0 hj)
    obtain ⟨V, hV⟩ : ∃ V, V = valF s l f (g + 1) args[0] := ⟨_, rfl⟩
    rw [<- hV] at HQ HA0
    clear hl1 hV HARG HDEF
    go_enter Tryz.func127, Tryz.ntmps127
    go_upto_region 1 with fail
    rw [<- hwa]
    clear hwa
    go_wp2_with fail
    refine HIX.out.mono ?_
    rintro r w1 ⟨rfl, hx1⟩
    have HX1 := hI (HXA.out.trans hx1)
    unfold optV
    clear f0 f1 f2 f3 f4 f5 ff e0 ef hltw
    obtain ⟨f0, f1, f2, f3, f4, f5, ff⟩ := blk6 (hx1.blk HB1.out)
    obtain ⟨e0, ef⟩ := blk1 (hx1.blk HB0.out)
    obtain ⟨b, off, rfl, aw1, nw1, cw1, aa1, na1, ca1, h0, h1, h2, h3, h4, h5, h6⟩ := HXJ.out w1 HX1.out
    have H6 := hI h6
    simp only [Nat.zero_mul, Nat.add_zero] at h0 h1 h2 h3 h4 h5
    clear hx1 h6
    go_wp2_with fail
    go_still_tail 7, (by kernel_rfl)
    change wpList _ _ _ _ _ w1.drew
    have hx2 : Ext w1 w1.drew := (Ext.refl w1).drew
    generalize w1.drew = w2 at hx2 ⊢
    have HX2 := hI (HX1.out.trans hx2)
    have HAX := hI (HA0.out _ w2 HX2.out (H6.out.ext hx2))
    unfold exV at HAX
    clear hx2 f0 f1 f2 f3 f4 f5 ff e0 ef h0 h1 h2 h3 h4 h5
    go_wp2_with fail
    refine HAX.out.mono ?_
    rintro r w3 ⟨rfl, hx3⟩
    have HX3 := hI (HX2.out.trans hx3)
    clear hx3
    go_wp2_with fail
    go_ret
    exact givesE_bool (by rw [HQ.out]) HX3.out
   -- and
   ·have HQ := hI (show R = args.all (valE s f (valsOf s l f g)) by rw [HR.out, if_neg (by decide), if_pos rfl, valAll_iff])
    have HXJ := hI (fun W (hW : Ext w W) => ExsD.at args _ (ExsD.ext hW args _ HX.out))
    obtain ⟨V, hV⟩ : ∃ V, V = valsOf s l f g := ⟨_, rfl⟩
    rw [<- hV] at HQ
    have HAV := hI (show ∀ (j : Nat) (hj : j < args.length) (xv : Value) (W : World), Ext w W -> IsEx W args[j] xv -> Calls Tryz.prog 127 #[.agg #[.slice sa sn sc], .slice a n c, xv, .slice fa fn fc] W (GivesE (.bool (valE s f V args[j])) W) from fun j hj xv W hW hxv => by rw [hV, <- valF_eq]; exact HARG.out j hj xv W hW hxv)
    clear hV HARG HDEF
    go_enter Tryz.func127, Tryz.ntmps127
    go_upto_region 1 with fail
    rw [<- hwa]
    clear hwa
    go_wp2_with fail
    refine HIX.out.mono ?_
    rintro r w1 ⟨rfl, hx1⟩
    have HX1 := hI (HXA.out.trans hx1)
    have HB01 := hI (hx1.blk HB0.out)
    have HB11 := hI (hx1.blk HB1.out)
    unfold optV
    clear f0 f1 f2 f3 f4 f5 ff e0 ef hltw
    obtain ⟨f0, f1, f2, f3, f4, f5, ff⟩ := blk6 HB11.out
    clear hx1
    go_wp2_with fail
    clear f0 f1 f2 f3 f4 f5 ff
    go_loopw [13, 14] (TruthN s f V args na w.heap.size (.cells #[.slice sa sn sc] 24 (0, 0)) (.cells #[.int .i64 7, .string name, .slice aw nw cw, .int .i64 lo, .int .i64 hi', .slice aa na ca] 45 (0, 0)) w) (fun _ i _ => na - (intOf i).toNat)
    case atStart => exact ⟨0, 0, rfl, rfl, by omega, by omega, ⟨fun _ j _ h => by omega, fun _ => rfl⟩, HB01.out, HB11.out, HX1.out⟩
    case round =>
     obtain ⟨k, q, rfl, rfl, hk, hqk, hall, hb0, hb1, hxr⟩ := hrel
     have HALL := hI hall
     have HB0R := hI hb0
     have HB1R := hI hb1
     have HXR := hI hxr
     obtain ⟨e0, ef⟩ := blk1 hb0
     obtain ⟨f0, f1, f2, f3, f4, f5, ff⟩ := blk6 hb1
     clear hall hb0 hb1 hxr
     by_cases hkn : k < na
     ·have hka : k < args.length := by have := HNA.out; omega
      have t1 : decide ((k : Int) < (na : Int)) = true := decide_eq_true (by omega)
      obtain ⟨b, off, rfl, aw1, nw1, cw1, aa1, na1, ca1, h0, h1, h2, h3, h4, h5, h6⟩ := HXJ.out wr HXR.out k hka
      have H6 := hI h6
      have HAK := hI (HAV.out k hka)
      obtain ⟨B, hB⟩ : ∃ B, B = valE s f V args[k] := ⟨_, rfl⟩
      rw [<- hB] at HAK
      have HBB := hI hB
      clear h6 hB
      go_wp2_with fail
      go_still_tail 8, (by kernel_rfl)
      change wpList _ _ _ _ _ wr.drew
      have hx2 : Ext wr wr.drew := (Ext.refl wr).drew
      generalize wr.drew = w2 at hx2 ⊢
      have HX2 := hI (HXR.out.trans hx2)
      have HB02 := hI (hx2.blk HB0R.out)
      have HB12 := hI (hx2.blk HB1R.out)
      have HAX := hI (HAK.out _ w2 HX2.out (H6.out.ext hx2))
      unfold exV at HAX
      clear hx2 f0 f1 f2 f3 f4 f5 ff e0 ef h0 h1 h2 h3 h4 h5
      go_wp2_with fail
      refine HAX.out.mono ?_
      rintro r w3 ⟨rfl, hx3⟩
      have HX3 := hI (HX2.out.trans hx3)
      have HB03 := hI (hx3.blk HB02.out)
      have HB13 := hI (hx3.blk HB12.out)
      clear hx3
      cases B
      ·go_wp2_with fail
       go_roundw
       case rel =>
        refine ⟨k + 1, q, by go_num, rfl, by omega, by omega, ⟨fun h => by omega, fun h => ?_⟩, HB03.out, HB13.out, HX3.out⟩
        have := h k hka (by omega)
        rw [<- HBB.out] at this; cases this
       case measure => simp [intOf]; omega
      go_wp2_with fail
      go_roundw
      case rel =>
       refine ⟨k + 1, q + 1, by go_num, by go_num, by omega, by omega, ⟨fun h j hj hjk => ?_, fun h => ?_⟩, HB03.out, HB13.out, HX3.out⟩
       ·by_cases e : j = k
        ·subst e; exact HBB.out.symm
        exact HALL.out.1 (by omega) j hj (by omega)
       have := HALL.out.2 fun j hj hjk => h j hj (by omega)
       omega
      case measure => simp [intOf]; omega
     have t1 : decide ((k : Int) < (na : Int)) = false := decide_eq_false (by omega)
     have HF := hI (show R = ((q : Int) == (na : Int)) by
      rw [HQ.out, Bool.eq_iff_iff, List.all_eq_true]
      simp only [beq_iff_eq]
      constructor
      ·intro h
       have := HALL.out.2 fun j hj _ => h _ (List.getElem_mem hj)
       omega
      intro h x hx
      obtain ⟨j, hj, rfl⟩ := List.getElem_of_mem hx
      exact HALL.out.1 (by omega) j hj (by have := HNA.out; omega))
     go_wp2_with fail
     go_ret
     exact givesE_bool (by rw [HF.out]) HXR.out
   -- or
   have HQ := hI (show R = args.any (valE s f (valsOf s l f g)) by rw [HR.out, if_neg (by decide), if_neg (by decide), if_pos rfl, valAny_iff])
   have HXJ := hI (fun W (hW : Ext w W) => ExsD.at args _ (ExsD.ext hW args _ HX.out))
   obtain ⟨V, hV⟩ : ∃ V, V = valsOf s l f g := ⟨_, rfl⟩
   rw [<- hV] at HQ
   have HAV := hI (show ∀ (j : Nat) (hj : j < args.length) (xv : Value) (W : World), Ext w W -> IsEx W args[j] xv -> Calls Tryz.prog 127 #[.agg #[.slice sa sn sc], .slice a n c, xv, .slice fa fn fc] W (GivesE (.bool (valE s f V args[j])) W) from fun j hj xv W hW hxv => by rw [hV, <- valF_eq]; exact HARG.out j hj xv W hW hxv)
   clear hV HARG HDEF
   go_enter Tryz.func127, Tryz.ntmps127
   go_upto_region 1 with fail
   rw [<- hwa]
   clear hwa
   go_wp2_with fail
   refine HIX.out.mono ?_
   rintro r w1 ⟨rfl, hx1⟩
   have HX1 := hI (HXA.out.trans hx1)
   have HB01 := hI (hx1.blk HB0.out)
   have HB11 := hI (hx1.blk HB1.out)
   unfold optV
   clear f0 f1 f2 f3 f4 f5 ff e0 ef hltw
   obtain ⟨f0, f1, f2, f3, f4, f5, ff⟩ := blk6 HB11.out
   clear hx1
   go_wp2_with fail
   clear f0 f1 f2 f3 f4 f5 ff
   go_loopw [15] (TruthA s f V args na w.heap.size (.cells #[.slice sa sn sc] 24 (0, 0)) (.cells #[.int .i64 8, .string name, .slice aw nw cw, .int .i64 lo, .int .i64 hi', .slice aa na ca] 45 (0, 0)) w) (fun i _ => na - (intOf i).toNat)
   case atStart => exact ⟨0, rfl, by omega, fun j _ h => by omega, HB01.out, HB11.out, HX1.out⟩
   case round =>
    obtain ⟨k, rfl, hk, hall, hb0, hb1, hxr⟩ := hrel
    have HALL := hI hall
    have HB0R := hI hb0
    have HB1R := hI hb1
    have HXR := hI hxr
    obtain ⟨e0, ef⟩ := blk1 hb0
    obtain ⟨f0, f1, f2, f3, f4, f5, ff⟩ := blk6 hb1
    clear hall hb0 hb1 hxr
    by_cases hkn : k < na
    ·have hka : k < args.length := by have := HNA.out; omega
     have t1 : decide ((k : Int) < (na : Int)) = true := decide_eq_true (by omega)
     obtain ⟨b, off, rfl, aw1, nw1, cw1, aa1, na1, ca1, h0, h1, h2, h3, h4, h5, h6⟩ := HXJ.out wr HXR.out k hka
     have H6 := hI h6
     have HAK := hI (HAV.out k hka)
     obtain ⟨B, hB⟩ : ∃ B, B = valE s f V args[k] := ⟨_, rfl⟩
     rw [<- hB] at HAK
     have HBB := hI hB
     clear h6 hB
     go_wp2_with fail
     go_still_tail 8, (by kernel_rfl)
     change wpList _ _ _ _ _ wr.drew
     have hx2 : Ext wr wr.drew := (Ext.refl wr).drew
     generalize wr.drew = w2 at hx2 ⊢
     have HX2 := hI (HXR.out.trans hx2)
     have HB02 := hI (hx2.blk HB0R.out)
     have HB12 := hI (hx2.blk HB1R.out)
     have HAX := hI (HAK.out _ w2 HX2.out (H6.out.ext hx2))
     unfold exV at HAX
     clear hx2 f0 f1 f2 f3 f4 f5 ff e0 ef h0 h1 h2 h3 h4 h5
     go_wp2_with fail
     refine HAX.out.mono ?_
     rintro r w3 ⟨rfl, hx3⟩
     have HX3 := hI (HX2.out.trans hx3)
     have HB03 := hI (hx3.blk HB02.out)
     have HB13 := hI (hx3.blk HB12.out)
     clear hx3
     cases B
     ·go_wp2_with fail
      go_roundw
      case rel =>
       refine ⟨k + 1, by go_num, by omega, fun j hj hjk => ?_, HB03.out, HB13.out, HX3.out⟩
       by_cases e : j = k
       ·subst e; exact HBB.out.symm
       exact HALL.out j hj (by omega)
      case measure => simp [intOf]; omega
     have HF := hI (show R = true by rw [HQ.out, List.any_eq_true]; exact ⟨_, List.getElem_mem hka, HBB.out.symm⟩)
     go_wp2_with fail
     go_ret
     exact givesE_bool (by rw [HF.out]) HX3.out
    have t1 : decide ((k : Int) < (na : Int)) = false := decide_eq_false (by omega)
    have HF := hI (show R = false by
     rw [HQ.out, List.any_eq_false]
     intro x hx
     obtain ⟨j, hj, rfl⟩ := List.getElem_of_mem hx
     rw [HALL.out j hj (by have := HNA.out; omega)]; simp)
    go_wp2_with fail
    go_ret
    exact givesE_bool (by rw [HF.out]) HXR.out
theorem ref_tree {e : Ex} (h : refExprB e = true) : okTree e /\ e.size <= 300 := by
 rw [refExprB, Bool.and_eq_true, Bool.and_eq_true] at h
 refine ⟨(nodes_ok _).1 h.2, ?_⟩
 have := h.1.2
 simp only [decide_eq_true_eq] at this
 unfold refSize at this
 omega
mutual
theorem expE_ge {D : BA -> Option Nat} {s : BA} {n : Nat} (hn : D s = some n) : (e : Ex) -> s ∈ namesE e -> min n 2001 <= expE D e
 | .mk op name words lo hi args, h => by
  rw [namesE, List.mem_append] at h
  rw [expE]
  rcases h with h | h
  ·by_cases h3 : op = 3
   ·rw [if_pos h3] at h
    have : s = name := by simpa using h
    subst this
    rw [if_pos h3, hn]
    simp only [Option.getD_some]
    omega
   rw [if_neg h3] at h; simp at h
  have := expL_ge hn args h
  omega
theorem expL_ge {D : BA -> Option Nat} {s : BA} {n : Nat} (hn : D s = some n) : (l : List Ex) -> s ∈ namesL l -> min n 2001 <= expL D l
 | [], h => by rw [namesL] at h; simp at h
 | e :: r, h => by
  rw [namesL, List.mem_append] at h
  rw [expL]
  rcases h with h | h
  ·have := expE_ge hn e h; omega
  have := expL_ge hn r h; omega
end
theorem expF_ge {l : List Cla} {e : Ex} {s : BA} {d : Nat} (hs : s ∈ namesE e) (hd : defAt l s = some d) {f : Nat} (h : expF l f (l.getD d cla0).cond = 2001) : expF l (f + 1) e = 2001 := by
 have h1 := expF_le l (f + 1) e
 rw [expF] at h1 ⊢
 have := expE_ge (D := fun s => (defAt l s).map fun d => expF l f (l.getD d cla0).cond) (n := 2001) (by rw [hd]; simp only [Option.map_some]; rw [h]) e hs
 omega
inductive Reach (l : List Cla) (e : Ex) : Nat -> Prop
 | base {s : BA} {d : Nat} : s ∈ namesE e -> defAt l s = some d -> Reach l e d
 | step {d d' : Nat} {s : BA} : Reach l e d -> s ∈ namesE (l.getD d cla0).cond -> defAt l s = some d' -> Reach l e d'
theorem Reach.large {l : List Cla} {e : Ex} {d : Nat} (h : Reach l e d) : (∀ f, expF l f (l.getD d cla0).cond = 2001) -> ∀ f, expF l f e = 2001 := by
 induction h with
 | base hs hd =>
  intro h f
  cases f with
  | zero => rfl
  | succ f => exact expF_ge hs hd (h f)
 | step _ hs hd ih =>
  intro h
  refine ih fun f => ?_
  cases f with
  | zero => rfl
  | succ f => exact expF_ge hs hd (h f)
structure Used (l : List Cla) (e : Ex) (u : List Cla) : Prop where
 defs : ∀ c ∈ u, c.kind = 1 /\ ∃ d, defAt l c.name = some d /\ c.cond = (l.getD d cla0).cond /\ Reach l e d
 names : (u.map (·.name)).Nodup
 top : ∀ s ∈ namesE e, ∀ d, defAt l s = some d -> s ∈ u.map (·.name)
 closed : ∀ c ∈ u, ∀ s ∈ namesE c.cond, ∀ d, defAt l s = some d -> s ∈ u.map (·.name)
theorem Used.defAt {l : List Cla} {e : Ex} {u : List Cla} (h : Used l e u) {i : Nat} (hi : i < u.length) : defAt u u[i].name = some i := by
 unfold Proofs.YtefjomofjejklaaGreatDoor.defAt
 rw [List.findIdx?_eq_some_iff_getElem]
 refine ⟨hi, ?_, fun j hj => ?_⟩
 ·have := (h.defs u[i] (List.getElem_mem hi)).1
  simp [this]
 have hne : u[j].name ≠ u[i].name := by
  have := (List.pairwise_iff_getElem.1 h.names) j i (by simp; omega) (by simpa using hi) hj
  simpa using this
 simp [hne]
theorem Used.at {l : List Cla} {e : Ex} {u : List Cla} (h : Used l e u) {s : BA} (hm : s ∈ u.map (·.name)) : ∃ i d, i < u.length /\ Proofs.YtefjomofjejklaaGreatDoor.defAt u s = some i /\ Proofs.YtefjomofjejklaaGreatDoor.defAt l s = some d /\ (u.getD i cla0).cond = (l.getD d cla0).cond := by
 obtain ⟨c, hc, rfl⟩ := List.mem_map.1 hm
 obtain ⟨i, hi, rfl⟩ := List.mem_iff_getElem.1 hc
 obtain ⟨_, d, h1, h2, _⟩ := h.defs _ hc
 exact ⟨i, d, hi, h.defAt hi, h1, by rw [getD_cla hi]; exact h2⟩
theorem Used.only {l : List Cla} {e : Ex} {u : List Cla} (h : Used l e u) {s : BA} (hn : Proofs.YtefjomofjejklaaGreatDoor.defAt l s = none) : Proofs.YtefjomofjejklaaGreatDoor.defAt u s = none := by
 cases hd : Proofs.YtefjomofjejklaaGreatDoor.defAt u s with
 | none => rfl
 | some i =>
  have hi := defAt_lt hd
  have h1 := (defAt_name hd).1
  rw [getD_cla hi] at h1
  obtain ⟨_, d, h2, _⟩ := h.defs _ (List.getElem_mem hi)
  rw [h1, hn] at h2
  cases h2
theorem Used.same {l : List Cla} {e : Ex} {u : List Cla} (h : Used l e u) : ∀ f x, (∀ s ∈ namesE x, ∀ d, Proofs.YtefjomofjejklaaGreatDoor.defAt l s = some d -> s ∈ u.map (·.name)) -> expF u f x = expF l f x := by
 intro f
 induction f with
 | zero => intro x _; rfl
 | succ f ih =>
  intro x hx
  rw [expF, expF]
  refine expE_congr _ fun s hs => ?_
  cases hd : Proofs.YtefjomofjejklaaGreatDoor.defAt l s with
  | none => rw [h.only hd]; rfl
  | some d =>
   obtain ⟨i, d', hi, h1, h2, h3⟩ := h.at (hx s hs d hd)
   rw [hd] at h2
   cases h2
   rw [h1]
   simp only [Option.map_some, h3, Option.some.injEq]
   refine ih _ fun t ht d2 hd2 => ?_
   rw [<- h3, getD_cla hi] at ht
   exact h.closed _ (List.getElem_mem hi) t ht d2 hd2
theorem Used.len {l : List Cla} {e : Ex} {u : List Cla} (h : Used l e u) : u.length <= l.length := by
 have key := nodup_le (u.map fun c => (Proofs.YtefjomofjejklaaGreatDoor.defAt l c.name).getD 0) (List.range l.length) ?_ ?_
 ·simpa using key
 ·rw [List.Nodup, List.pairwise_map]
  have h1 := h.names
  rw [List.Nodup, List.pairwise_map] at h1
  refine h1.imp_of_mem fun {a b} ha hb hne he => ?_
  obtain ⟨_, d, h2, _⟩ := h.defs a ha
  obtain ⟨_, d', h3, _⟩ := h.defs b hb
  rw [h2, h3] at he
  simp only [Option.getD_some] at he
  subst he
  exact hne ((defAt_name h2).1.symm.trans (defAt_name h3).1)
 intro x hx
 obtain ⟨c, hc, rfl⟩ := List.mem_map.1 hx
 obtain ⟨_, d, h2, _⟩ := h.defs c hc
 rw [h2]
 exact List.mem_range.2 (defAt_lt h2)
theorem Used.good {l : List Cla} {e : Ex} {u : List Cla} (h : Used l e u) {o : ZN} (ht : Topo (u.map Cla.dfn) o) (hb : ∀ c ∈ u, bareE c.cond = true) (he : bareE e = true) : szE (sizesF u o) e = expanded l e := by
 have hlt : ∀ i ∈ o, i < u.length := fun i hi => by simpa using ht.lt hi
 rw [sizes_exp ht (fun i hi => by rw [getD_cla (hlt i hi)]; exact h.defAt (hlt i hi)) (fun i hi => by rw [getD_cla (hlt i hi)]; exact hb _ (List.getElem_mem _)) e he]
 unfold expanded
 rw [<- h.same (l.length + 1) e h.top, expF, expF]
 refine expE_congr _ fun s hs => ?_
 cases hd : Proofs.YtefjomofjejklaaGreatDoor.defAt u s with
 | none => rfl
 | some i =>
  have hi := defAt_lt hd
  have hio : i ∈ o := (ht.all i).2 (by rw [isDef_dfn hi, (h.defs _ (List.getElem_mem hi)).1]; rfl)
  obtain ⟨q, hq⟩ := List.mem_iff_getElem?.1 hio
  have hql : q < o.length := (List.getElem?_eq_some_iff.1 hq).1
  have h1 := ht.len
  have h2 := h.len
  simp only [List.length_map] at h1
  simp only [Option.map_some, Option.some.injEq]
  exact expF_stable ht q i hq _ _ (by omega) (by omega)
theorem Used.cyclic {l : List Cla} {e : Ex} {u : List Cla} (h : Used l e u) {o : ZN} (ho : OInv (u.map Cla.dfn) o []) (hc : o.length < countOf (u.map Cla.dfn)) : expanded l e = 2001 := by
 have hbad : ∀ f i, (hi : i < u.length) -> i ∉ o -> expF u f u[i].cond = 2001 := by
  intro f
  induction f with
  | zero => intro i _ _; rfl
  | succ f ih =>
   intro i hi hio
   have hdef : isDef (u.map Cla.dfn) i = true := by rw [isDef_dfn hi, (h.defs _ (List.getElem_mem hi)).1]; rfl
   have hm : missL (u.map Cla.dfn) o i ≠ [] := fun hm => hio (by have := (ho.ready i).2 ⟨hdef, hm⟩; simpa using this)
   obtain ⟨s, hs⟩ := List.exists_mem_of_ne_nil _ hm
   obtain ⟨h1, d, h2, h3⟩ := mem_miss.1 hs
   rw [usesAt_dfn hi, refNames_mem] at h1
   rw [firstAt_dfn] at h2
   have hdl := defAt_lt h2
   refine expF_ge h1 h2 ?_
   rw [getD_cla hdl]
   exact ih d hdl h3
 obtain ⟨i, hi, hio⟩ : ∃ i, i < u.length /\ i ∉ o := by
  refine Classical.byContradiction fun hn => ?_
  have := nodup_le _ o (List.nodup_range.filter (isDef (u.map Cla.dfn))) fun i hi => Classical.byContradiction fun hio => hn ⟨i, by simpa using isDef_lt (mem_defs.1 hi), hio⟩
  unfold countOf at hc
  omega
 obtain ⟨_, d, h1, h2, h3⟩ := h.defs _ (List.getElem_mem hi)
 refine h3.large (fun f => ?_) _
 rw [<- h2, <- h.same f u[i].cond (h.closed _ (List.getElem_mem hi))]
 exact hbad f i hi hio
open Go.RowKit Go.Maps
def natF (D : BA -> Option Nat) : BA -> Option Value := fun s => (D s).map fun (n : Nat) => Value.int .i64 (n : Int)
mutual
theorem szE_le {D : BA -> Option Nat} (hD : ∀ s n, D s = some n -> n <= 2001) : (e : Ex) -> szE D e <= 2001
 | .mk op name _ _ _ args => by
  rw [szE]
  have hl := szL_le hD args 1 (by omega)
  by_cases h3 : op = 3
  ·rw [if_pos h3]
   cases hd : D name with
   | none => exact hl
   | some n => exact hD name n hd
  rw [if_neg h3]
  exact hl
theorem szL_le {D : BA -> Option Nat} (hD : ∀ s n, D s = some n -> n <= 2001) : (l : List Ex) -> ∀ n, n <= 2001 -> szL D n l <= 2001
 | [], n, hn => by simp [szL]; omega
 | e :: r, n, hn => by
  rw [szL]
  exact szL_le hD r _ (by omega)
end
def CExpL (D : BA -> Option Nat) (na : Nat) (args : List Ex) (w1 : World) (t i : Value) (wr : World) : Prop := ∃ k : Nat, i = .int .i64 k /\ k <= na /\ t = .int .i64 ((szL D 1 (args.take k) : Nat) : Int) /\ szL D 1 (args.take k) <= 2001 /\ Ext w1 wr
theorem cexp_calls (D : BA -> Option Nat) (hD : ∀ s n, D s = some n -> n <= 2001) (bm nm : Nat) : ∀ (m : Nat) (e : Ex) (ev : Value) (w : World), e.size <= m -> m <= 1000000000000000 -> e.fits -> MapAt w 9 bm nm (strF (natF D)) -> IsEx w e ev ->
  Calls Tryz.prog 83 #[.map (some bm), ev] w (GivesE (.int .i64 (szE D e)) w) := by
 intro m
 induction m with
 | zero => intro e ev w h; have := size_pos e; omega
 | succ m ihm =>
  intro e ev w hm hMM hfit hmap he
  obtain ⟨aw, nw, cw, aa, na, ca, rfl, hw, hna, hca, ha, hx⟩ := he.parts
  obtain ⟨hnm, hfa⟩ := fits_parts2 hfit
  have hS : e.size = 1 + sizes e.args := e.size_eq
  have hla := length_le_sizes e.args
  have hna2 : na <= 1000000000000000 := by omega
  have hszm : sizes e.args <= m := by omega
  have HM := hI hmap
  have HX := hI hx
  have HNA := hI hna
  have HFA := hI hfa
  have HSL := hI (szE_le hD)
  have HEQ := hI (szE_eq' D e)
  have IHM := hI ihm
  clear hw hna hca ha hx he hS hla ihm hm hfa hfit hmap
  unfold exV
  obtain ⟨wa, hwa⟩ : ∃ wa, wa = w.alloc (.cells #[.int .i64 e.op, .string e.name, .slice aw nw cw, .int .i64 e.lo, .int .i64 e.hi, .slice aa na ca] 45) := ⟨_, rfl⟩
  have hxa : Ext w wa := by rw [hwa]; exact (Ext.refl _).alloc _
  have hb1 : wa.heap[w.heap.size]? = some (.cells #[.int .i64 e.op, .string e.name, .slice aw nw cw, .int .i64 e.lo, .int .i64 e.hi, .slice aa na ca] 45 (0, 0)) := by rw [hwa]; exact alloc_new w _
  have HXA := hI hxa
  have HB1 := hI hb1
  obtain ⟨f0, f1, f2, f3, f4, f5, ff⟩ := blk6 hb1
  have hltw := blk_lt hb1
  have HMA := hI (HM.out.ext hxa)
  clear hxa hb1
  by_cases hdef : e.op = 3 /\ (D e.name).isSome = true
  ·obtain ⟨h3, hds⟩ := hdef
   obtain ⟨q, hq⟩ := Option.isSome_iff_exists.1 hds
   have t3 : (e.op == 3) = true := by simp [h3]
   have HQ := hI (show szE D e = q by rw [HEQ.out, if_pos h3, hq])
   have HF := hI (show strF (natF D) (.string e.name.data.toList) = some (.int .i64 q) by rw [strF_at, natF, hq]; rfl)
   clear hds hq h3 HEQ
   go_enter Tryz.func83, Tryz.ntmps83
   go_upto_region 2 with fail
   rw [<- hwa]
   clear hwa
   go_wp2_with (at_lookup; refine wpList_map_ok _ rfl _ _ 136 rfl 9 3 keyedStr uMapSI (zeroInt _) bm nm _ rfl HMA.out _ _ rfl (keyStr hnm) trivial ?_; rw [HF.out])
   go_ret
   exact givesE_of (by rw [HQ.out]) HXA.out
  have HQ := hI (show szE D e = szL D 1 e.args by
   rw [HEQ.out]
   by_cases h3 : e.op = 3
   ·rw [if_pos h3]
    cases hd : D e.name with
    | none => rfl
    | some q => exact absurd ⟨h3, by rw [hd]; rfl⟩ hdef
   rw [if_neg h3])
  clear HEQ
  by_cases h3 : e.op = 3
  case' pos =>
   have t3 : (e.op == 3) = true := by simp [h3]
   have HF := hI (show strF (natF D) (.string e.name.data.toList) = none by
    rw [strF_at, natF]
    cases hd : D e.name with
    | none => rfl
    | some q => exact absurd ⟨h3, by rw [hd]; rfl⟩ hdef)
   clear h3 hdef
   go_enter Tryz.func83, Tryz.ntmps83
   go_upto_region 2 with fail
   rw [<- hwa]
   clear hwa
   go_wp2_with (at_lookup; refine wpList_map_ok _ rfl _ _ 136 rfl 9 3 keyedStr uMapSI (zeroInt _) bm nm _ rfl HMA.out _ _ rfl (keyStr hnm) trivial ?_; rw [HF.out])
   clear HF
  case' neg =>
   have t3 : (e.op == 3) = false := by simp [h3]
   clear h3 hdef
   go_enter Tryz.func83, Tryz.ntmps83
   go_wp2_with fail
   rw [<- hwa]
   clear hwa
  all_goals
   clear f0 f1 f2 f3 f4 f5 ff
   go_loopw [7, 25] (CExpL D na e.args wa) (fun _ i _ => na - (intOf i).toNat)
   case atStart => exact ⟨0, rfl, by omega, by simp [szL], by simp [szL], Ext.refl _⟩
   case round =>
    obtain ⟨k, rfl, hk, rfl, hle, hxr⟩ := hrel
    have HXR := hI hxr
    clear hxr
    obtain ⟨N, hN⟩ : ∃ N, N = szL D 1 (e.args.take k) := ⟨_, rfl⟩
    rw [<- hN] at hle ⊢
    have HNN := hI hN
    clear hN
    by_cases hkn : k < na
    ·have hka : k < e.args.length := by have := HNA.out; omega
     have t1 : decide ((k : Int) < (na : Int)) = true := decide_eq_true (by omega)
     obtain ⟨b, off, rfl, aw1, nw1, cw1, aa1, na1, ca1, h0, h1, h2, h3, h4, h5, h6⟩ := ExsD.at e.args _ (ExsD.ext (HXA.out.trans HXR.out) e.args _ HX.out) k hka
     have H6 := hI h6
     have hs1 := sizes_take_succ e.args k hka
     have hs2 := sizes_take_le e.args (k + 1)
     have hk1 : e.args[k].size <= m := by omega
     have HTS := hI (szL_take_succ D e.args 1 k hka)
     have hel := HSL.out e.args[k]
     have hblt := block_lt h0
     simp only at hblt
     clear h6 hs1 hs2
     obtain ⟨wx, hwx⟩ : ∃ wx, wx = wr.alloc (.cells #[.int .i64 e.args[k].op, .string e.args[k].name, .slice aw1 nw1 cw1, .int .i64 e.args[k].lo, .int .i64 e.args[k].hi, .slice aa1 na1 ca1] 45) := ⟨_, rfl⟩
     have HXX := hI (show Ext wr wx by rw [hwx]; exact (Ext.refl _).alloc _)
     go_wp2_with fail
     rw [<- hwx]
     clear hwx
     refine (IHM.out e.args[k] _ _ hk1 (by omega) (HFA.out _ (List.getElem_mem hka)) (HMA.out.ext (HXR.out.trans HXX.out)) (H6.out.ext HXX.out)).mono ?_
     rintro r w3 ⟨rfl, hx3⟩
     have HX3 := hI (HXR.out.trans (HXX.out.trans hx3))
     clear hx3 h0 h1 h2 h3 h4 h5
     go_wp2_with fail
     all_goals
      go_roundw
      case rel => exact ⟨k + 1, by go_num, by omega, by rw [HTS.out, <- HNN.out]; congr 1; omega, by rw [HTS.out]; omega, HX3.out⟩
      case measure => simp [intOf]; omega
    have t1 : decide ((k : Int) < (na : Int)) = false := decide_eq_false (by omega)
    have HR := hI (show N = szE D e by rw [HQ.out, HNN.out, List.take_of_length_le (by have := HNA.out; omega)])
    have HXE := hI (HXA.out.trans HXR.out)
    go_wp2_with fail
    go_ret
    exact givesE_of (by rw [<- HR.out]) HXE.out
theorem uMapSE : Tryz.prog.underlying 131 = some (.map 9 45) := by kernel_rfl
theorem zeroEx (w : World) : (zeroValue 45).run Tryz.prog w = .ok (.agg #[.int .i64 0, .string ⟨#[]⟩, .slice none 0 0, .int .i64 0, .int .i64 0, .slice none 0 0]) w := by kernel_rfl
theorem defAt_take {l : List Cla} {k : Nat} (hk : k < l.length) (s : BA) : defAt (l.take (k + 1)) s = match defAt (l.take k) s with | some d => some d | none => if l[k].kind = 1 /\ l[k].name = s then some k else none := by
 have h := first_take (l := l.map Cla.dfn) (k := k) (by simpa using hk) s
 rw [<- List.map_take, <- List.map_take, firstAt_dfn, firstAt_dfn] at h
 rw [h]
 cases defAt (l.take k) s <;> simp [Cla.dfn]
def DefsG (w : World) (l : List Cla) (g : BA -> Option Value) : Prop := ∀ s, (defAt l s = none -> g s = none) /\ ∀ d, defAt l s = some d -> ∃ v, g s = some v /\ IsEx w (l.getD d cla0).cond v
theorem DefsG.ext {w w' : World} {l : List Cla} {g : BA -> Option Value} (h : DefsG w l g) (hx : Ext w w') : DefsG w' l g := fun s => ⟨(h s).1, fun d hd => by obtain ⟨v, h1, h2⟩ := (h s).2 d hd; exact ⟨v, h1, h2.ext hx⟩⟩
def DefsAt (w : World) (l : List Cla) (b n : Nat) : Prop := ∃ g, MapAt w 9 b n (strF g) /\ DefsG w l g
theorem DefsAt.ext {w w' : World} {l : List Cla} {b n : Nat} (h : DefsAt w l b n) (hx : Ext w w') : DefsAt w' l b n := by
 obtain ⟨g, h1, h2⟩ := h
 exact ⟨g, h1.ext hx, h2.ext hx⟩
theorem getD_take {l : List Cla} {k d : Nat} (hd : d < k) : (l.take k).getD d cla0 = l.getD d cla0 := by simp [List.getD, hd]
theorem DefsG.skip {w : World} {l : List Cla} {k : Nat} {g : BA -> Option Value} (hk : k < l.length) (h : DefsG w (l.take k) g) (hs : l[k].kind ≠ 1 \/ defAt (l.take k) l[k].name ≠ none) : DefsG w (l.take (k + 1)) g := by
 intro s
 have hdd : ∀ d, defAt (l.take k) s = some d -> d < k := fun d hd => by have := defAt_lt hd; simp at this; omega
 have key : defAt (l.take (k + 1)) s = defAt (l.take k) s := by
  rw [defAt_take hk]
  cases hd : defAt (l.take k) s with
  | some d => rfl
  | none =>
   rw [if_neg]
   rintro ⟨h1, h2⟩
   rcases hs with h3 | h3
   ·exact h3 h1
   rw [h2] at h3; exact h3 hd
 rw [key]
 refine ⟨(h s).1, fun d hd => ?_⟩
 have := hdd d hd
 rw [getD_take (by omega), <- getD_take (k := k) this]
 exact (h s).2 d hd
theorem DefsG.step {w : World} {l : List Cla} {k : Nat} {g : BA -> Option Value} (hk : k < l.length) (h : DefsG w (l.take k) g) (hk1 : l[k].kind = 1) (hn : defAt (l.take k) l[k].name = none) {v : Value} (hv : IsEx w l[k].cond v) : DefsG w (l.take (k + 1)) (upS g l[k].name (some v)) := by
 intro s
 rw [defAt_take hk]
 by_cases e : s = l[k].name
 ·subst e
  rw [hn, upS_same]
  simp only [hk1, and_self, if_true]
  refine ⟨fun h => by simp at h, fun d hd => ?_⟩
  obtain rfl : k = d := by simpa using hd
  rw [getD_take (by omega), getD_cla hk]
  exact ⟨v, rfl, hv⟩
 rw [upS_other _ _ e]
 cases hd : defAt (l.take k) s with
 | none =>
  have : ¬ (l[k].kind = 1 /\ l[k].name = s) := fun h => e h.2.symm
  simp only [if_neg this]
  exact ⟨fun _ => (h s).1 hd, fun d hd' => by cases hd'⟩
 | some d =>
  have hdk : d < k := by have := defAt_lt hd; simp at this; omega
  refine ⟨fun h => by simp at h, fun d' hd' => ?_⟩
  obtain rfl : d = d' := by simpa using hd'
  rw [getD_take (by omega), <- getD_take (k := k) hdk]
  exact (h s).2 d hd
def DefsQ (l : List Cla) (n : Nat) (w : World) (e : Ending) (w' : World) : Prop := ∃ b, e = .returned (.map (some b)) /\ DefsAt w' l b n /\ Ext w w'
theorem definitions_calls (l : List Cla) (a : OA) (n c : Nat) (w : World) (hl : IsClas w l a n c) (hn : n <= 1000000) (hsz : ∀ x ∈ l, x.name.size <= 1000000000000000) :
  Calls Tryz.prog 78 #[.slice a n c] w (DefsQ l n w) := by
 have HL := hI hl
 have HN := hI hl.len
 have HSZ := hI hsz
 clear hl hsz
 have hmm := @run_makeMap Tryz.prog
 have HM0 := hI (MapAt.made w 9)
 have HX0 := hI ((Ext.refl w).alloc (.map #[] 0))
 obtain ⟨bf, hbf⟩ : ∃ bf : Nat, bf = w.heap.size := ⟨_, rfl⟩
 rw [<- hbf] at HM0
 have HBF := hI hbf
 go_enter Tryz.func78, Tryz.ntmps78
 go_wp2_with fail
 rw [<- hbf]
 clear hbf hmm
 go_loopw [11] (fun i wr => ∃ (k : Nat) (g : BA -> Option Value), k <= n /\ i = .int .i64 k /\ MapAt wr 9 bf k (strF g) /\ DefsG w (l.take k) g /\ Ext w wr) (fun i _ => n - (intOf i).toNat)
 case atStart =>
  refine ⟨0, fun _ => none, by omega, rfl, HM0.out.congr fun x => ?_, fun s => ⟨fun _ => rfl, fun d hd => ?_⟩, HX0.out⟩
  ·cases x <;> simp [strF]
  simp [defAt] at hd
 case round =>
  obtain ⟨k, g, hk, rfl, hmap, hg, hx⟩ := hrel
  have HMP := hI hmap
  have HX := hI hx
  have HG := hI hg
  have hbw := hmap.lt
  clear hmap hx hg HM0 HX0
  by_cases hlt : k < n
  ·have hlt' : k < l.length := by have := HN.out; omega
   have t1 : decide ((k : Int) < (n : Int)) = true := decide_eq_true (by omega)
   obtain ⟨cb, coff, v, rfl, hcla, hrow⟩ := HL.out.at hlt'
   obtain ⟨c0, c1, c2, c3, c4, c5, c6, c7, c8, c9⟩ := (hrow.mono HX.out.sub).ten
   have hns : v.name.size <= 1000000000000000 := by rw [hcla.2.1]; exact HSZ.out _ (List.getElem_mem hlt')
   have hblt := block_lt c0
   simp only at hblt
   have HEX := hI (show IsEx w l[k].cond (.agg #[.int .i64 v.x.op, .string v.x.name, .slice v.x.aw v.x.nw v.x.cw, .int .i64 v.x.lo, .int .i64 v.x.hi, .slice v.x.aa v.x.na v.x.ca]) from hcla.2.2.1)
   have HEK := hI (show l[k].kind = v.kind from hcla.1.symm)
   have HEN := hI (show l[k].name = v.name from hcla.2.1.symm)
   have HST := hI (fun h1 h2 => HG.out.step hlt' h1 h2 HEX.out)
   have HSK := hI (HG.out.skip hlt')
   rw [HEK.out, HEN.out] at HST HSK
   clear hcla hrow
   cases hfa : defAt (l.take k) v.name with
   | none =>
    have HF := hI (show strF g (.string v.name.data.toList) = none by rw [strF_at]; exact (HG.out _).1 hfa)
    cases hkd : (v.kind == 1)
    ·have HKN := hI (HSK.out (Or.inl (by simpa using hkd)))
     go_wp2_with (at_lookup; refine wpList_map_ok _ rfl _ _ 131 rfl 9 45 keyedStr uMapSE (zeroEx _) bf k _ rfl (HMP.out.ext ((Ext.refl wr).alloc _)) _ _ rfl (keyStr hns) trivial ?_; rw [HF.out])
     go_roundw
     case rel => exact ⟨k + 1, g, by omega, by go_num, (HMP.out.ext (((Ext.refl wr).alloc _).alloc _)).more (by omega), HKN.out, (HX.out.alloc _).alloc _⟩
     case measure => simp [intOf]; omega
    have HKN := hI (HST.out (by simpa using hkd) hfa)
    clear hfa
    go_wp2_with (first
     | (at_lookup; refine wpList_map_ok _ rfl _ _ 131 rfl 9 45 keyedStr uMapSE (zeroEx _) bf k _ rfl (HMP.out.ext ((Ext.refl wr).alloc _)) _ _ rfl (keyStr hns) trivial ?_; rw [HF.out])
     | (at_mapUpdate; refine wpList_map_put _ rfl _ _ _ 131 rfl 9 45 keyedStr uMapSE bf k _ rfl (HMP.out.ext (((Ext.refl wr).alloc _).alloc _)) ?c3 _ _ _ rfl rfl (keyStr hns) trivial ?_))
    case c3 => unfold maxLen; omega
    intro w1 hm1 hc1
    have HM1 := hI (hm1.congr (setF_str g v.name _))
    have HX1 := hI (hc1.ext ((HX.out.alloc _).alloc _) (by rw [<- HBF.out]; simp))
    clear hm1 hc1
    go_wp2_with fail
    go_roundw
    case rel => exact ⟨k + 1, _, by omega, by go_num, HM1.out, HKN.out, HX1.out⟩
    case measure => simp [intOf]; omega
   | some d =>
    obtain ⟨u, hu, hux⟩ := (HG.out v.name).2 d hfa
    obtain ⟨aw, nw, cw, aa, na, ca, rfl, -, -, -, -, -⟩ := hux.parts
    have HF := hI (show strF g (.string v.name.data.toList) = some _ by rw [strF_at]; exact hu)
    have HKN := hI (HSK.out (Or.inr (by rw [hfa]; simp)))
    unfold exV at HF
    clear hfa hu hux
    cases hkd : (v.kind == 1)
    all_goals
     go_wp2_with (at_lookup; refine wpList_map_ok _ rfl _ _ 131 rfl 9 45 keyedStr uMapSE (zeroEx _) bf k _ rfl (HMP.out.ext ((Ext.refl wr).alloc _)) _ _ rfl (keyStr hns) trivial ?_; rw [HF.out])
     go_roundw
     case rel => exact ⟨k + 1, g, by omega, by go_num, (HMP.out.ext (((Ext.refl wr).alloc _).alloc _)).more (by omega), HKN.out, (HX.out.alloc _).alloc _⟩
     case measure => simp [intOf]; omega
  have t1 : decide ((k : Int) < (n : Int)) = false := decide_eq_false (by omega)
  have hkn : k = n := by omega
  have HGE := hI (show DefsAt wr l bf n from ⟨g, by rw [<- hkn]; exact HMP.out, by have := HG.out.ext HX.out; rwa [List.take_of_length_le (by have := HN.out; omega)] at this⟩)
  clear hkn
  go_wp2_with fail
  go_ret
  exact ⟨bf, rfl, HGE.out, HX.out⟩
def kindFor (op : Int) : Int := if op = 3 then 3 else if op = 4 then 1 else if op = 5 then 2 else 0
def cnodeErr (s : List Attr) (l : List Cla) (op : Int) (name : BA) (words : ZB) (lo hi : Int) : Int :=
 if kindFor op = 0 then 0 else match attrAt s name with
 | none => if op = 3 /\ (defAt l name).isSome = true then 0 else 7
 | some i => if (s.getD i attr0).kind ≠ kindFor op then 9 else if (words.all fun x => decide (x ∈ (s.getD i attr0).words)) = false then 7 else if lo < (s.getD i attr0).lo \/ (s.getD i attr0).hi < hi then 1 else 0
theorem cnode_none {s : List Attr} {l : List Cla} {op : Int} {name : BA} {words : ZB} {lo hi : Int} (hk : kindFor op ≠ 0) (h : attrAt s name = none) : cnodeErr s l op name words lo hi = if op = 3 /\ (defAt l name).isSome = true then 0 else 7 := by
 unfold cnodeErr; rw [if_neg hk, h]
theorem cnode_some {s : List Attr} {l : List Cla} {op : Int} {name : BA} {words : ZB} {lo hi : Int} (hk : kindFor op ≠ 0) {i : Nat} (h : attrAt s name = some i) (hi' : i < s.length) : cnodeErr s l op name words lo hi =
  if s[i].kind ≠ kindFor op then 9 else if (words.all fun x => decide (x ∈ s[i].words)) = false then 7 else if lo < s[i].lo \/ s[i].hi < hi then 1 else 0 := by
 unfold cnodeErr; rw [if_neg hk, h]
 simp only [getD_attr hi']
theorem cnode_calls (s : List Attr) (sv : Value) (l : List Cla) (bm nm : Nat) (e : Ex) (ev : Value) (w : World) (hs : IsSchema w s sv) (hf : ∀ x ∈ s, x.fits) (hsl : s.length <= 1000000000000000) (hd : DefsAt w l bm nm) (he : IsEx w e ev) (hew : e.words.length <= 1000000000000000) (hen : e.name.size <= 1000000000000000) :
  Calls Tryz.prog 169 #[sv, .map (some bm), ev] w (GivesE (.int .i64 (cnodeErr s l e.op e.name e.words e.lo e.hi)) w) := by
 obtain ⟨sa, sn, sc, rfl, hsn⟩ := hs.slice
 obtain ⟨aw, nw, cw, aa, na, ca, rfl, hw, hna, hca, ha, hx⟩ := he.parts
 have HS := hI hs
 have HF := hI hf
 have HD := hI hd
 have HW := hI hw
 have HSN := hI hsn
 have HNW := hI hw.1
 have hnw : nw <= 1000000000000000 := by rw [hw.1]; exact hew
 have hsn2 : sn <= 1000000000000000 := by omega
 clear hs hf hd hw hsn he hna hca ha hx hew
 unfold exV
 obtain ⟨op, name, words, lo, hi, args⟩ := e
 simp only [Ex.op, Ex.name, Ex.words, Ex.lo, Ex.hi] at *
 obtain ⟨wa, hwa⟩ : ∃ wa, wa = (w.alloc (.cells #[.slice sa sn sc] 24)).alloc (.cells #[.int .i64 op, .string name, .slice aw nw cw, .int .i64 lo, .int .i64 hi, .slice aa na ca] 45) := ⟨_, rfl⟩
 have hxa : Ext w wa := by rw [hwa]; exact ((Ext.refl _).alloc _).alloc _
 have hb0 : wa.heap[w.heap.size]? = some (.cells #[.slice sa sn sc] 24 (0, 0)) := by rw [hwa]; exact blk_alloc (alloc_new w _)
 have hb1 : wa.heap[w.heap.size + 1]? = some (.cells #[.int .i64 op, .string name, .slice aw nw cw, .int .i64 lo, .int .i64 hi, .slice aa na ca] 45 (0, 0)) := by rw [hwa]; exact alloc_atR (by simp)
 have HI := hI (sIndex_calls s _ name wa (HS.out.ext hxa) (by have := HSN.out; omega))
 have HXA := hI hxa
 have HB0 := hI hb0
 have HB1 := hI hb1
 obtain ⟨E, hE⟩ : ∃ E, E = cnodeErr s l op name words lo hi := ⟨_, rfl⟩
 rw [<- hE]
 have HE := hI hE
 clear hE
 obtain ⟨a0, af⟩ := blk1 hb0
 obtain ⟨b0, b1, b2, b3, b4, b5, bf⟩ := blk6 hb1
 have hlt1 := blk_lt hb1
 clear hxa hb0 hb1
 by_cases hop : op = 3 \/ op = 4 \/ op = 5
 case neg =>
  have HR := hI (show E = 0 by
   rw [HE.out, cnodeErr, if_pos]
   unfold kindFor
   rw [if_neg (by omega), if_neg (by omega), if_neg (by omega)])
  have e3 : (op == 3) = false := by simp; omega
  have e4 : (op == 4) = false := by simp; omega
  have e5 : (op == 5) = false := by simp; omega
  clear hop
  go_enter Tryz.func169, Tryz.ntmps169
  go_upto_region 1 with fail
  rw [<- hwa]
  clear hwa
  go_wp2_with fail
  go_ret
  exact givesE_of (by rw [HR.out]) HXA.out
 obtain ⟨kd, hkd⟩ : ∃ kd : Int, (op = 3 /\ kd = 3) \/ (op = 4 /\ kd = 1) \/ (op = 5 /\ kd = 2) := by
  rcases hop with h | h | h
  ·exact ⟨3, Or.inl ⟨h, rfl⟩⟩
  ·exact ⟨1, Or.inr (Or.inl ⟨h, rfl⟩)⟩
  exact ⟨2, Or.inr (Or.inr ⟨h, rfl⟩)⟩
 have hkf : kindFor op = kd /\ kd ≠ 0 := by
  rcases hkd with ⟨rfl, rfl⟩ | ⟨rfl, rfl⟩ | ⟨rfl, rfl⟩ <;> exact ⟨rfl, by decide⟩
 clear hop
 have HK0 := hI (show kindFor op ≠ 0 by rw [hkf.1]; exact hkf.2)
 have HKF := hI hkf.1
 clear hkf
 cases ho : attrAt s name with
 | none =>
  rw [ho, optV_none] at HI
  have HQ := hI (show E = if op = 3 /\ (defAt l name).isSome = true then 0 else 7 by rw [HE.out]; exact cnode_none HK0.out ho)
  clear ho HE HK0 HKF
  obtain ⟨g, hmap, hg⟩ := HD.out
  have HMP := hI hmap
  have HG := hI hg
  clear hmap hg
  cases hda : defAt l name with
  | none =>
   have HFN := hI (show strF g (.string name.data.toList) = none by rw [strF_at]; exact (HG.out _).1 hda)
   have HR := hI (show E = 7 by rw [HQ.out, hda]; simp)
   clear hda HQ
   rcases hkd with ⟨rfl, rfl⟩ | ⟨rfl, rfl⟩ | ⟨rfl, rfl⟩
   all_goals
    go_enter Tryz.func169, Tryz.ntmps169
    go_upto_region 1 with fail
    rw [<- hwa]
    clear hwa
    go_wp2_with fail
    refine HI.out.mono ?_
    rintro r w3 ⟨rfl, hx3⟩
    have HX3 := hI (HXA.out.trans hx3)
    have HM3 := hI (HMP.out.ext HX3.out)
    clear b0 b1 b2 b3 b4 b5 bf a0 af hlt1
    obtain ⟨b0, b1, b2, b3, b4, b5, bf⟩ := blk6 (hx3.blk HB1.out)
    have hlt := blk_lt (hx3.blk HB1.out)
    clear hx3
    go_wp2_with (at_lookup; refine wpList_map_ok _ rfl _ _ 131 rfl 9 45 keyedStr uMapSE (zeroEx _) bm nm _ rfl HM3.out _ _ rfl (keyStr hen) trivial ?_; rw [HFN.out])
    go_ret
    exact givesE_of (by rw [HR.out]) (HX3.out.alloc _)
  | some d =>
   obtain ⟨u, hu, hux⟩ := (HG.out name).2 d hda
   obtain ⟨aw', nw', cw', aa', na', ca', rfl, -, -, -, -, -⟩ := hux.parts
   have HFN := hI (show strF g (.string name.data.toList) = some _ by rw [strF_at]; exact hu)
   unfold exV at HFN
   have HR := hI (show E = if op = 3 then 0 else 7 by rw [HQ.out, hda]; simp)
   clear hda HQ hu hux
   rcases hkd with ⟨rfl, rfl⟩ | ⟨rfl, rfl⟩ | ⟨rfl, rfl⟩
   all_goals
    go_enter Tryz.func169, Tryz.ntmps169
    go_upto_region 1 with fail
    rw [<- hwa]
    clear hwa
    go_wp2_with fail
    refine HI.out.mono ?_
    rintro r w3 ⟨rfl, hx3⟩
    have HX3 := hI (HXA.out.trans hx3)
    have HM3 := hI (HMP.out.ext HX3.out)
    clear b0 b1 b2 b3 b4 b5 bf a0 af hlt1
    obtain ⟨b0, b1, b2, b3, b4, b5, bf⟩ := blk6 (hx3.blk HB1.out)
    have hlt := blk_lt (hx3.blk HB1.out)
    clear hx3
    go_wp2_with (at_lookup; refine wpList_map_ok _ rfl _ _ 131 rfl 9 45 keyedStr uMapSE (zeroEx _) bm nm _ rfl HM3.out _ _ rfl (keyStr hen) trivial ?_; rw [HFN.out])
    go_ret
    exact givesE_of (by rw [HR.out]; decide) (HX3.out.alloc _)
 | some i =>
  rw [ho, optV_some] at HI
  have his := attrAt_lt ho
  have hin : i < sn := by have := HSN.out; omega
  have HQ := hI (show E = if s[i].kind ≠ kd then 9 else if (words.all fun x => decide (x ∈ s[i].words)) = false then 7 else if lo < s[i].lo \/ s[i].hi < hi then 1 else 0 by rw [HE.out, cnode_some HK0.out ho his, HKF.out])
  clear ho HE HK0 HKF
  have ti0 : (0 : Int) <= (i : Int) := by omega
  have ti1 : (i : Int) < (sn : Int) := by omega
  have hfi := HF.out _ (List.getElem_mem his)
  have hxn0 := hfi.2.1
  clear hfi
  by_cases hk : s[i].kind = kd
  case neg =>
   have tk : (s[i].kind != kd) = true := by simp [hk]
   have HR := hI (show E = 9 by rw [HQ.out, if_pos hk])
   clear hk HQ
   rcases hkd with ⟨rfl, rfl⟩ | ⟨rfl, rfl⟩ | ⟨rfl, rfl⟩
   all_goals
    go_enter Tryz.func169, Tryz.ntmps169
    go_upto_region 1 with fail
    rw [<- hwa]
    clear hwa
    go_wp2_with fail
    refine HI.out.mono ?_
    rintro r w3 ⟨rfl, hx3⟩
    have HX3 := hI (HXA.out.trans hx3)
    clear b0 b1 b2 b3 b4 b5 bf a0 af hlt1
    obtain ⟨d0, df⟩ := blk1 (hx3.blk HB0.out)
    have hlt := blk_lt (hx3.blk HB1.out)
    obtain ⟨sb, soff, xw, xn, xc, rfl, g0, g1, g2, g3, g4, g5⟩ := (HS.out.ext HX3.out).cells his
    clear hx3 g5
    go_wp2_with fail
    go_ret
    exact givesE_of (by rw [HR.out]) (HX3.out.alloc _)
  have tk : (s[i].kind != kd) = false := by simp [hk]
  have HR := hI (show E = if (words.all fun x => decide (x ∈ s[i].words)) = false then 7 else if lo < s[i].lo \/ s[i].hi < hi then 1 else 0 by rw [HQ.out, if_neg (by simpa using hk)])
  clear hk HQ
  rcases hkd with ⟨rfl, rfl⟩ | ⟨rfl, rfl⟩ | ⟨rfl, rfl⟩
  all_goals
   go_enter Tryz.func169, Tryz.ntmps169
   go_upto_region 1 with fail
   rw [<- hwa]
   clear hwa
   go_wp2_with fail
   refine HI.out.mono ?_
   rintro r w3 ⟨rfl, hx3⟩
   have HX3 := hI (HXA.out.trans hx3)
   clear b0 b1 b2 b3 b4 b5 bf a0 af hlt1
   obtain ⟨d0, df⟩ := blk1 (hx3.blk HB0.out)
   have HB13 := hI (hx3.blk HB1.out)
   have hlt := blk_lt (hx3.blk HB1.out)
   obtain ⟨sb, soff, xw, xn, xc, rfl, g0, g1, g2, g3, g4, g5⟩ := (HS.out.ext HX3.out).cells his
   have HG5 := hI g5
   have hxn : xn <= 1000000000000000 := by rw [g5.1]; exact hxn0
   clear hx3 g5
   go_upto_region 17 with fail
   obtain ⟨wb, hwb⟩ : ∃ wb, wb = w3.alloc (.cells #[.string s[i].name, .int .i64 s[i].kind, .slice xw xn xc, .int .i64 s[i].lo, .int .i64 s[i].hi] 101) := ⟨_, rfl⟩
   rw [<- hwb]
   have hxb : Ext w3 wb := by rw [hwb]; exact (Ext.refl _).alloc _
   have hbb : wb.heap[w3.heap.size]? = some (.cells #[.string s[i].name, .int .i64 s[i].kind, .slice xw xn xc, .int .i64 s[i].lo, .int .i64 s[i].hi] 101 (0, 0)) := by rw [hwb]; exact alloc_new w3 _
   have HBB := hI hbb
   have HB6 := hI (hxb.blk HB13.out)
   have HXB := hI (HX3.out.trans hxb)
   have HGB := hI (HG5.out.ext hxb)
   have HWB := hI (HW.out.ext HXB.out)
   obtain ⟨p0, p1, p2, p3, p4, pf⟩ := blk5b hbb
   obtain ⟨q0, q1, q2, q3, q4, q5, qf⟩ := blk6 HB6.out
   have hltb := blk_lt hbb
   clear hwb hxb hbb d0 df g0 g1 g2 g3 g4 HG5 hlt
   go_wp2_with fail
   go_loop [57] (fun t => ∃ k : Nat, t = .int .i64 k /\ k <= nw /\ (∀ j (h : j < words.length), j < k -> decide (words[j] ∈ s[i].words) = true)) (fun t => nw - (intOf t).toNat)
   case atStart => exact ⟨0, rfl, by omega, fun j _ h => by omega⟩
   case round =>
    obtain ⟨k, rfl, hk, hall⟩ := hrel
    have HALL := hI hall
    clear hall
    by_cases hkn : k < nw
    ·have hkw : k < words.length := by have := HNW.out; omega
     have t1 : decide ((k : Int) < (nw : Int)) = true := decide_eq_true (by omega)
     obtain ⟨wb', woff, rfl, cw0⟩ := HWB.out.2.2.2 k hkw
     cases hany : decide (words[k] ∈ s[i].words)
     ·have HA := hI hany
      have HR2 := hI (show E = 7 by
       rw [HR.out, if_pos]
       rw [List.all_eq_false]
       exact ⟨words[k], List.getElem_mem hkw, by rw [hany]; simp⟩)
      clear hany
      go_wp2_with fail
      refine (contains_calls _ _ _ _ _ _ hxn HGB.out).mono ?_
      rintro e w' ⟨rfl, rfl⟩
      rw [HA.out]
      go_wp2_with fail
      go_ret
      exact givesE_of (by rw [HR2.out]) HXB.out
     have HA := hI hany
     clear hany
     go_wp2_with fail
     refine (contains_calls _ _ _ _ _ _ hxn HGB.out).mono ?_
     rintro e w' ⟨rfl, rfl⟩
     rw [HA.out]
     go_wp2_with fail
     go_round
     case rel =>
      refine ⟨k + 1, by go_num, by omega, fun j hj hjk => ?_⟩
      by_cases e : j = k
      ·subst e; exact HA.out
      exact HALL.out j hj (by omega)
     case measure => simp [intOf]; omega
    have t1 : decide ((k : Int) < (nw : Int)) = false := decide_eq_false (by omega)
    have HR2 := hI (show E = if lo < s[i].lo \/ s[i].hi < hi then 1 else 0 by
     rw [HR.out, if_neg]
     rw [Bool.not_eq_false, List.all_eq_true]
     intro y hy
     obtain ⟨j, hj, rfl⟩ := List.mem_iff_getElem.1 hy
     exact HALL.out j hj (by have := HNW.out; omega))
    clear HALL
    go_wp2_with fail
    all_goals (go_ret; exact givesE_of (by rw [HR2.out]; simp_all <;> omega) HXB.out)
end Go.Proofs.YtefjomofjejklaaGreatDoor
