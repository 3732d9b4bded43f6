/-
  Texts of the claim, joined: Loss, SWb, CNodes, GenB2.
-/
import Derived.Test.YtpkljcgihobaiaaGreatDoorSo14
namespace Go.Proofs.YtpkljcgihobaiaaGreatDoor
set_option maxRecDepth 100000
set_option maxHeartbeats 32000000
open Go.RowKit Go.Maps
structure LossV where
 sa : OA
 sn : Nat
 sc : Nat
 bm : Nat
 fa : OA
 fn : Nat
 fc : Nat
def LossV.val (v : LossV) : Value := .agg #[.slice v.sa v.sn v.sc, .map (some v.bm), .slice v.fa v.fn v.fc]
structure IsLoss (w : World) (s : List Attr) (l : List Cla) (f : ZI) (v : LossV) (nm : Nat) : Prop where
 sch : IsSchema w s (.agg #[.slice v.sa v.sn v.sc])
 defs : DefsAt w l v.bm nm
 facts : IsIntF w f v.fa v.fn
theorem IsLoss.ext {w w' : World} {s : List Attr} {l : List Cla} {f : ZI} {v : LossV} {nm : Nat} (h : IsLoss w s l f v nm) (hx : Ext w w') : IsLoss w' s l f v nm := ⟨h.sch.ext hx, h.defs.ext hx, h.facts.ext hx⟩
def exZero : Value := .agg #[.int .i64 0, .string ⟨#[]⟩, .slice none 0 0, .int .i64 0, .int .i64 0, .slice none 0 0]
def DefnQ (l : List Cla) (op : Int) (name : BA) (w : World) (e : Ending) (w' : World) : Prop := Ext w w' /\ ((op = 3 /\ ∃ d v, defAt l name = some d /\ e = .returned (.tuple #[ExV.val v, .bool true]) /\ IsEx w' (l.getD d cla0).cond v.val) \/ ((op ≠ 3 \/ defAt l name = none) /\ e = .returned (.tuple #[exZero, .bool false])))
theorem isEx_exV {w : World} {e : Ex} {v : Value} (h : IsEx w e v) : ∃ x : ExV, v = x.val /\ IsEx w e x.val := by
 obtain ⟨aw, nw, cw, aa, na, ca, rfl, -⟩ := h.parts
 exact ⟨⟨e.op, e.name, aw, nw, cw, e.lo, e.hi, aa, na, ca⟩, rfl, h⟩
theorem definition_calls (s : List Attr) (l : List Cla) (f : ZI) (lv : LossV) (nm : Nat) (e : Ex) (ev : Value) (w : World) (hl : IsLoss w s l f lv nm) (he : IsEx w e ev) (hen : e.name.size <= 1000000000000000) :
  Calls Tryz.prog 54 #[lv.val, ev] w (DefnQ l e.op e.name w) := by
 obtain ⟨aw, nw, cw, aa, na, ca, rfl, hw, hna, hca, ha, hx⟩ := he.parts
 obtain ⟨sa, sn, sc, bm, fa, fn, fc⟩ := lv
 have HD := hI hl.defs
 clear hw hna hca ha hx hl he
 unfold exV LossV.val
 obtain ⟨op, name, words, lo, hi, args⟩ := e
 simp only [Ex.op, Ex.name, Ex.lo, Ex.hi] at *
 by_cases h3 : op = 3
 case neg =>
  have t3 : (op != 3) = true := by simp [h3]
  have H3 := hI h3
  clear h3
  go_enter Tryz.func54, Tryz.ntmps54
  go_wp2_with fail
  refine bodyPost_ret (v := .tuple #[exZero, .bool false]) (by simp [results, Tryz.results54, go_sem, exZero]) rfl ?_
  exact ⟨by first | exact (((Ext.refl w).alloc _).alloc _).alloc _ | exact Ext.refl w, Or.inr ⟨Or.inl H3.out, rfl⟩⟩
 subst h3
 obtain ⟨g, hmap, hg⟩ := HD.out
 have HMP := hI hmap
 have HG := hI hg
 clear hmap hg
 cases hda : defAt l name with
 | none =>
  have HFN := hI (show strF g (.string name.data.toList) = none by rw [strF_at]; exact (HG.out _).1 hda)
  have HDA := hI hda
  clear hda HG
  go_enter Tryz.func54, Tryz.ntmps54
  go_wp2_with (at_lookup; refine wpList_map_ok _ rfl _ _ 69 rfl 9 26 keyedStr uMapSE (zeroEx _) bm nm _ rfl (HMP.out.ext ((((Ext.refl w).alloc _).alloc _).alloc _)) _ _ rfl (keyStr hen) trivial ?_; rw [HFN.out])
  refine bodyPost_ret (v := .tuple #[exZero, .bool false]) (by simp [results, Tryz.results54, go_sem, exZero]) rfl ?_
  exact ⟨((((Ext.refl w).alloc _).alloc _).alloc _).alloc _, Or.inr ⟨Or.inr HDA.out, rfl⟩⟩
 | some d =>
  obtain ⟨u, hu, hux⟩ := (HG.out name).2 d hda
  obtain ⟨xv, rfl, hxv⟩ := isEx_exV hux
  have HFN := hI (show strF g (.string name.data.toList) = some _ by rw [strF_at]; exact hu)
  have HXV := hI hxv
  have HDA := hI hda
  clear hda HG hu hux hxv
  obtain ⟨xo, xn, xaw, xnw, xcw, xlo, xhi, xaa, xna, xca⟩ := xv
  unfold ExV.val exV at HFN HXV
  go_enter Tryz.func54, Tryz.ntmps54
  go_wp2_with (at_lookup; refine wpList_map_ok _ rfl _ _ 69 rfl 9 26 keyedStr uMapSE (zeroEx _) bm nm _ rfl (HMP.out.ext ((((Ext.refl w).alloc _).alloc _).alloc _)) _ _ rfl (keyStr hen) trivial ?_; rw [HFN.out])
  refine bodyPost_ret (v := .tuple #[ExV.val ⟨xo, xn, xaw, xnw, xcw, xlo, xhi, xaa, xna, xca⟩, .bool true]) (by simp [results, Tryz.results54, go_sem, ExV.val, exV]) rfl ?_
  have hx : Ext w _ := (((((Ext.refl w).alloc (.cells #[.slice sa sn sc, .map (some bm), .slice fa fn fc] 71)).alloc (.cells #[.int .i64 3, .string name, .slice aw nw cw, .int .i64 lo, .int .i64 hi, .slice aa na ca] 26)).alloc (.cells #[.int .i64 xo, .string xn, .slice xaw xnw xcw, .int .i64 xlo, .int .i64 xhi, .slice xaa xna xca] 26)).alloc (.cells #[.int .i64 xo, .string xn, .slice xaw xnw xcw, .int .i64 xlo, .int .i64 xhi, .slice xaa xna xca] 26))
  exact ⟨hx, Or.inl ⟨rfl, d, _, HDA.out, rfl, HXV.out.ext hx⟩⟩
theorem fact_ways {s : List Attr} {l : List Cla} {e : Ex} (ht : okTree e) (h : nodesErr s l e = 0) (h6 : e.op ≠ 6 /\ e.op ≠ 7 /\ e.op ≠ 8) (hd : e.op = 3 -> defAt l e.name = none) : e.op = 1 \/ e.op = 2 \/ (e.op = 3 /\ ∃ i, attrAt s e.name = some i) \/ (e.op = 4 /\ ∃ i, attrAt s e.name = some i /\ (s.getD i attr0).kind = 1) \/ (e.op = 5 /\ ∃ i, attrAt s e.name = some i) := by
 rcases node_ways ht h with h1 | h1 | ⟨h1, i, h2, -⟩ | ⟨h1, -, d, h2⟩ | ⟨h1, i, h2, h3⟩ | ⟨h1, i, h2, -⟩ | ⟨h1, -⟩ | h1 | h1
 ·exact Or.inl h1
 ·exact Or.inr (Or.inl h1)
 ·exact Or.inr (Or.inr (Or.inl ⟨h1, i, h2⟩))
 ·rw [hd h1] at h2; cases h2
 ·exact Or.inr (Or.inr (Or.inr (Or.inl ⟨h1, i, h2, h3⟩)))
 ·exact Or.inr (Or.inr (Or.inr (Or.inr ⟨h1, i, h2⟩)))
 ·exact absurd h1 h6.1
 ·exact absurd h1 h6.2.1
 exact absurd h1 h6.2.2
theorem okTree_words {e : Ex} (h : okTree e) : e.words.length <= 12 /\ e.name.size <= 1000 := by
 rcases (okTree_parts h).1 with ⟨-, h1, h2, -⟩ | ⟨-, h1, h2, -⟩ | ⟨-, h1, h2, -⟩ | ⟨-, h1, h2, -⟩ | ⟨-, h1, h2, -⟩ | ⟨-, h1, h2, -⟩ | ⟨-, h1, h2, -⟩
 ·rw [h1, h2]; exact ⟨by simp, by decide⟩
 ·rw [h1, h2]; exact ⟨by simp, by decide⟩
 ·rw [h2]; exact ⟨by simp, by have := nameB_le h1; omega⟩
 ·simp only [wordsB, Bool.and_eq_true] at h2
  exact ⟨of_decide_eq_true h2.1.1.2, by have := nameB_le h1; omega⟩
 ·rw [h2]; exact ⟨by simp, by have := nameB_le h1; omega⟩
 ·rw [h1, h2]; exact ⟨by simp, by decide⟩
 rw [h1, h2]; exact ⟨by simp, by decide⟩
theorem fact_calls (s : List Attr) (l : List Cla) (f : ZI) (lv : LossV) (nm : Nat) (hsc : schemaErr s = 0) (hfa : factsAll s f = true) (e : Ex) (ev : Value) (w : World) (hl : IsLoss w s l f lv nm) (he : IsEx w e ev) (hok : okTree e)
  (hw5 : e.op = 1 \/ e.op = 2 \/ (e.op = 3 /\ ∃ i, attrAt s e.name = some i) \/ (e.op = 4 /\ ∃ i, attrAt s e.name = some i /\ (s.getD i attr0).kind = 1) \/ (e.op = 5 /\ ∃ i, attrAt s e.name = some i)) :
  Calls Tryz.prog 55 #[lv.val, ev] w (GivesE (.bool (factV s f e.op e.name e.words e.lo e.hi)) w) := by
 have hwl := okTree_words hok
 obtain ⟨aw, nw, cw, aa, na, ca, rfl, hw, hna, hca, ha, hx⟩ := he.parts
 obtain ⟨sa, sn, sc, bm, fa, fn, fc⟩ := lv
 have HS := hI hl.sch
 have HI := hI hl.facts
 have HW := hI hw
 have HFA := hI hfa
 have hsl6 := (schema_attrs hsc).2.1
 have HIX := hI (fun W (hW : Ext w W) => sIndex_calls s _ e.name W (hl.sch.ext hW) (by omega))
 have HSN := hI (show sn = s.length by obtain ⟨a', n', c', e', h', -⟩ := hl.sch.parts; simp at e'; omega)
 clear hw hna hca ha hx hl he hok hfa hsl6 hsc
 unfold exV LossV.val
 obtain ⟨op, name, words, lo, hi, args⟩ := e
 simp only [Ex.op, Ex.name, Ex.words, Ex.lo, Ex.hi] at *
 have hwn := hwl.1
 have HNM := hI hwl.2
 clear hwl
 obtain ⟨R, hR⟩ : ∃ R, R = factV s f op name words lo hi := ⟨_, rfl⟩
 rw [<- hR]
 have HR := hI hR
 clear hR
 obtain ⟨wa, hwa⟩ : ∃ wa, wa = (w.alloc (.cells #[.slice sa sn sc, .map (some bm), .slice fa fn fc] 71)).alloc (.cells #[.int .i64 op, .string name, .slice aw nw cw, .int .i64 lo, .int .i64 hi, .slice aa na ca] 26) := ⟨_, rfl⟩
 have hxa : Ext w wa := by rw [hwa]; exact ((Ext.refl _).alloc _).alloc _
 have hb0 : wa.heap[w.heap.size]? = some (.cells #[.slice sa sn sc, .map (some bm), .slice fa fn fc] 71 (0, 0)) := by rw [hwa]; exact blk_alloc (alloc_new w _)
 have hb1 : wa.heap[w.heap.size + 1]? = some (.cells #[.int .i64 op, .string name, .slice aw nw cw, .int .i64 lo, .int .i64 hi, .slice aa na ca] 26 (0, 0)) := by rw [hwa]; exact alloc_atR (by simp)
 have HXA := hI hxa
 have HB0 := hI hb0
 have HB1 := hI hb1
 obtain ⟨f0, f1, f2, f3, f4, f5, ff⟩ := blk6 hb1
 obtain ⟨e0, e1, e2, ef⟩ := blk3 hb0
 have hltw := blk_lt hb1
 clear hxa hb0 hb1
 rcases hw5 with rfl | rfl | ⟨rfl, i, hat⟩ | ⟨rfl, i, hat, hkd⟩ | ⟨rfl, i, hat⟩
 ·have HQ := hI (show R = true by rw [HR.out]; simp [factV])
  go_enter Tryz.func55, Tryz.ntmps55
  go_upto_region 1 with fail
  rw [<- hwa]
  clear hwa
  go_wp2_with fail
  go_ret
  exact givesE_bool (by rw [HQ.out]) HXA.out
 ·have HQ := hI (show R = false by rw [HR.out]; simp [factV])
  go_enter Tryz.func55, Tryz.ntmps55
  go_upto_region 1 with fail
  rw [<- hwa]
  clear hwa
  go_wp2_with fail
  go_ret
  exact givesE_bool (by rw [HQ.out]) HXA.out
 ·obtain ⟨his, -⟩ := attrAt_at hat
  obtain ⟨hif, -, -⟩ := fact_at HFA.out his
  obtain ⟨fb, fo, rfl, hcell⟩ := HI.out.2 i hif
  obtain ⟨z, hz⟩ : ∃ z, z = f[i] := ⟨_, rfl⟩
  rw [<- hz] at hcell
  have HQ := hI (show R = (z == 1) by
   rw [HR.out]
   simp only [factV, hat]
   rw [if_neg (by decide), if_neg (by decide), if_neg (by decide), if_neg (by decide), Bool.eq_iff_iff]
   simp [hif, <- hz])
  have hin : i < fn := by rw [HI.out.1]; exact hif
  have HCF := hI hcell
  rw [hat, optV_some] at HIX
  clear hat his hif hcell hz
  go_enter Tryz.func55, Tryz.ntmps55
  go_upto_region 1 with fail
  rw [<- hwa]
  clear hwa
  go_wp2_with fail
  refine (HIX.out wa HXA.out).mono ?_
  rintro r w1 ⟨rfl, hx1⟩
  have HX1 := hI (HXA.out.trans hx1)
  clear f0 f1 f2 f3 f4 f5 ff e0 e1 e2 ef hltw
  obtain ⟨f0, f1, f2, f3, f4, f5, ff⟩ := blk6 (hx1.blk HB1.out)
  obtain ⟨e0, e1, e2, ef⟩ := blk3 (hx1.blk HB0.out)
  have hcf := HX1.out.cell HCF.out
  clear hx1
  go_wp2_with fail
  go_ret
  exact givesE_bool (by rw [HQ.out]) HX1.out
 ·obtain ⟨his, -⟩ := attrAt_at hat
  obtain ⟨hif, hlo2, hhi2⟩ := fact_at HFA.out his
  have hkd' : s[i].kind = 1 := by rw [<- hkd]; simp [his]
  have hdm : domB s[i] = (0, (s[i].words.length : Int) - 1) := by unfold domB; rw [if_pos hkd']
  rw [hdm] at hlo2 hhi2
  simp only at hlo2 hhi2
  obtain ⟨ab, ao, rfl, hA⟩ : ∃ ab ao, sa = some ⟨ab, ao, none⟩ /\ AttrAt w s[i] ab (ao + i * 5) := by
   obtain ⟨xa, xn, xc, e', -, -, -, hq⟩ := HS.out.parts
   simp only [Value.agg.injEq, Array.mk.injEq, List.cons.injEq, Value.slice.injEq, and_true] at e'
   obtain ⟨rfl, rfl, rfl⟩ := e'
   exact hq i his
  obtain ⟨x1, hx1⟩ : ∃ x1, x1 = s[i] := ⟨_, rfl⟩
  rw [<- hx1] at hA hkd' hhi2
  obtain ⟨bw, nwa, cwa, hstr, hfive⟩ := hA.five
  have H5 := hI hfive
  obtain ⟨fb, fo, rfl, hcell⟩ := HI.out.2 i hif
  obtain ⟨z, hz⟩ : ∃ z : Nat, f[i] = (z : Int) := ⟨f[i].toNat, by omega⟩
  rw [hz] at hcell hlo2 hhi2
  have hzw : z < x1.words.length := by omega
  obtain ⟨wb, wo, rfl, hwc⟩ := hstr.2.2.2 z hzw
  have HWC := hI hwc
  have hzn : z < nwa := by rw [hstr.1]; exact hzw
  have HQ := hI (show R = decide (x1.words[z] ∈ words) by
   rw [HR.out]
   simp only [factV, hat]
   rw [if_neg (by decide), if_neg (by decide), if_pos (by decide), Bool.eq_iff_iff]
   simp [his, hif, hz, <- hx1, hzw])
  have hin : i < fn := by rw [HI.out.1]; exact hif
  have hisn : i < sn := by rw [HSN.out]; exact his
  have HCF := hI hcell
  have HWI := hI (fun W (hW : Ext w W) => contains_calls words x1.words[z] aw nw cw W (by rw [HW.out.1]; omega) (HW.out.ext hW))
  rw [hat, optV_some] at HIX
  obtain ⟨x, hxx⟩ : ∃ x, x = x1.words[z] := ⟨_, rfl⟩
  rw [<- hxx] at HWC HQ HWI
  clear hx1 hat hkd his hif hlo2 hhi2 hcell hz hkd' hdm hA hstr hfive hwc hzw hxx
  go_enter Tryz.func55, Tryz.ntmps55
  go_upto_region 1 with fail
  rw [<- hwa]
  clear hwa
  go_wp2_with fail
  refine (HIX.out wa HXA.out).mono ?_
  rintro r w1 ⟨rfl, hx1⟩
  have HX1 := hI (HXA.out.trans hx1)
  clear f0 f1 f2 f3 f4 f5 ff e0 e1 e2 ef hltw
  obtain ⟨f0, f1, f2, f3, f4, f5, ff⟩ := blk6 (hx1.blk HB1.out)
  obtain ⟨e0, e1, e2, ef⟩ := blk3 (hx1.blk HB0.out)
  have hcf := HX1.out.cell HCF.out
  have hwf := HX1.out.cell HWC.out
  obtain ⟨g0, g1, g2, g3, g4⟩ := H5.out w1 HX1.out
  clear hx1
  go_wp2_with fail
  go_still_tail 12, (by kernel_rfl)
  change wpList _ _ _ _ _ w1.drew
  have hx2 : Ext w1 w1.drew := (Ext.refl w1).drew
  generalize w1.drew = w2 at hx2 ⊢
  have HX2 := hI (HX1.out.trans hx2)
  clear hx2 f0 f1 f2 f3 f4 f5 ff e0 e1 e2 ef hcf hwf g0 g1 g2 g3 g4
  go_wp2_with fail
  refine (HWI.out w2 HX2.out).mono ?_
  rintro r w3 ⟨rfl, rfl⟩
  go_wp2_with fail
  go_ret
  exact givesE_bool (by rw [HQ.out]) HX2.out
 obtain ⟨his, -⟩ := attrAt_at hat
 obtain ⟨hif, -, -⟩ := fact_at HFA.out his
 obtain ⟨fb, fo, rfl, hcell⟩ := HI.out.2 i hif
 obtain ⟨z, hz⟩ : ∃ z, z = f[i] := ⟨_, rfl⟩
 rw [<- hz] at hcell
 have HQ := hI (show R = (decide (lo <= z) && decide (z <= hi)) by
  rw [HR.out]
  simp only [factV, hat]
  rw [if_neg (by decide), if_neg (by decide), if_neg (by decide), if_pos (by decide)]
  simp [hif, <- hz])
 have hin : i < fn := by rw [HI.out.1]; exact hif
 have HCF := hI hcell
 rw [hat, optV_some] at HIX
 clear hat his hif hcell hz
 have hw4 : (decide (lo <= z) = true /\ decide (z <= hi) = true /\ R = true) \/ (decide (lo <= z) = true /\ decide (z <= hi) = false /\ R = false) \/ (decide (lo <= z) = false /\ R = false) := by
  rw [HQ.out]
  cases decide (lo <= z) <;> cases decide (z <= hi) <;> simp
 rcases hw4 with ⟨t1, t2, hf⟩ | ⟨t1, t2, hf⟩ | ⟨t1, hf⟩
 all_goals
  have HF := hI hf
  clear hf
  go_enter Tryz.func55, Tryz.ntmps55
  go_upto_region 1 with fail
  rw [<- hwa]
  clear hwa
  go_wp2_with fail
  refine (HIX.out wa HXA.out).mono ?_
  rintro r w1 ⟨rfl, hx1⟩
  have HX1 := hI (HXA.out.trans hx1)
  clear f0 f1 f2 f3 f4 f5 ff e0 e1 e2 ef hltw
  obtain ⟨f0, f1, f2, f3, f4, f5, ff⟩ := blk6 (hx1.blk HB1.out)
  obtain ⟨e0, e1, e2, ef⟩ := blk3 (hx1.blk HB0.out)
  have hcf := HX1.out.cell HCF.out
  clear hx1
  go_wp2_with fail
  go_ret
  exact givesE_bool (by rw [HF.out]) HX1.out
open Go.RowKit
theorem wbN_take_succ : (l : List Wb) -> (k : Nat) -> (hk : k < l.length) -> wbN (l.take (k + 1)) = wbN (l.take k) + 1 + wbN l[k].unl
 | [], k, hk => by simp at hk
 | .mk n c u :: r, 0, _ => by simp [wbN, Wb.unl]
 | .mk n c u :: r, k + 1, hk => by
  have := wbN_take_succ r k (by simpa using hk)
  simp [wbN] at this ⊢
  omega
theorem wbN_take_le : (l : List Wb) -> (k : Nat) -> wbN (l.take k) <= wbN l
 | [], k => by simp [wbN]
 | .mk n c u :: r, 0 => by simp [wbN]
 | .mk n c u :: r, k + 1 => by have := wbN_take_le r k; simp [wbN]; omega
def WbQ (R : Bool) (T : Nat) (bc : Nat) (w : World) (e : Ending) (w' : World) : Prop := ∃ m : Nat, e = .returned (.bool R) /\ w'.heap[bc]? = some (.cells #[.int .i64 ((m : Nat) : Int)] 3 (0, 0)) /\ m <= 41 /\ (R = true -> m = T) /\ Chg [bc] w w'
def WbRel (w : World) (bc d n : Nat) (l : List Wb) (nl : Nat) (t : Value) (wr : World) : Prop := ∃ k m : Nat, t = .int .i64 ((k : Nat) : Int) /\ k <= nl /\ (∀ j (h : j < l.length), j < k -> itemB (17 - d) l[j] = true) /\ m = n + wbN (l.take k) /\ m <= 40 /\ (k = 0 \/ d ≠ 17) /\
 wr.heap[bc]? = some (.cells #[.int .i64 ((m : Nat) : Int)] 3 (0, 0)) /\ Chg [bc] w wr
theorem writeBacks_calls {w0 : World} (ho : HasOps w0) (fm : Nat) : ∀ (l : List Wb) (a : OA) (nl c d n bc : Nat) (w : World), wbN l < fm -> nl <= 1000000000000000 -> wbFits l -> 1 <= d -> d <= 17 -> n <= 40 -> nl = l.length -> WbsD (mask w [bc]) l a -> Ext w0 w -> w0.heap.size <= bc ->
  w.heap[bc]? = some (.cells #[.int .i64 ((n : Nat) : Int)] 3 (0, 0)) ->
  Calls Tryz.prog 136 #[.slice a nl c, .int .i64 ((d : Nat) : Int), .pointer (some ⟨bc, 0, none⟩)] w (WbQ (backsB (17 - d) l && decide (n + wbN l <= 40)) (n + wbN l) bc w) := by
 induction fm with
 | zero => intro l a nl c d n bc w h; omega
 | succ fm ih =>
  intro l a nl c d n bc w hfm hnl hfit hd1 hd2 hn hln hdat hx0 hbc hcell
  have HD := hI hdat
  have HN := hI hln
  have HFT := hI hfit
  have HX0 := hI hx0
  have HO := hI ho
  have IH := hI ih
  have HBC := hI hbc
  have HCELL := hI hcell
  have HQ := hI (backsB_eq (17 - d) l)
  obtain ⟨R, hR⟩ : ∃ R, R = (backsB (17 - d) l && decide (n + wbN l <= 40)) := ⟨_, rfl⟩
  rw [<- hR]
  have HR := hI hR
  obtain ⟨T, hT⟩ : ∃ T, T = n + wbN l := ⟨_, rfl⟩
  rw [<- hT]
  have HT := hI hT
  clear hdat hln hfit hx0 ih hcell hR hT ho
  go_enter Tryz.func136, Tryz.ntmps136
  go_wp2_with fail
  go_loopw [11] (WbRel w bc d n l nl) (fun t _ => nl - (intOf t).toNat)
  case atStart => exact ⟨0, n, rfl, by omega, fun j _ h => by omega, by simp [wbN], hn, Or.inl rfl, HCELL.out, Chg.refl _ _⟩
  case round =>
   obtain ⟨k, m, rfl, hk, hall, hm, hm40, hk17, hcb, hch⟩ := hrel
   have HK17 := hI hk17
   have HALL := hI hall
   have HM := hI hm
   have HCB := hI hcb
   have HCH := hI hch
   obtain ⟨cc0, ccf⟩ := blk1 hcb
   have hbcl := blk_lt hcb
   clear hall hm hcb hch hk17
   by_cases hkn : k < nl
   case neg =>
    have t1 : decide ((k : Int) < (nl : Int)) = false := decide_eq_false (by omega)
    have HE := hI (show m = T /\ R = true by
     have h1 := HM.out
     have h2 := HN.out
     rw [List.take_of_length_le (by omega)] at h1
     refine ⟨by rw [HT.out, h1], ?_⟩
     rw [HR.out, Bool.and_eq_true]
     refine ⟨?_, by simp; omega⟩
     rw [HQ.out, Bool.and_eq_true]
     refine ⟨?_, ?_⟩
     ·by_cases h0 : l.length = 0
      ·simp [h0]
      have hd17 : 17 - d ≠ 0 := by
       have := HK17.out
       omega
      simp [hd17]
     rw [List.all_eq_true]
     intro x hx
     obtain ⟨j, hj, rfl⟩ := List.mem_iff_getElem.1 hx
     exact HALL.out j hj (by omega))
    go_wp2_with fail
    go_ret
    exact ⟨m, by rw [HE.out.2]; rfl, HCB.out, by omega, fun _ => HE.out.1, HCH.out⟩
   have hkl : k < l.length := by have := HN.out; omega
   have t1 : decide ((k : Int) < (nl : Int)) = true := decide_eq_true (by omega)
   obtain ⟨b, off, rfl, v, hv0, hrow, hv2, hv3, hv4, hv5, hv6⟩ := WbsD.at l _ (WbsD.mono HCH.out.sub _ _ HD.out) k hkl
   obtain ⟨c0, c1, c2, c3, c4, c5, c6, c7⟩ := (hrow.mono (mask_sub _ _)).eight
   obtain ⟨ho1, ho2, ho3, ho4, hou, ho5⟩ := wbFits_at l HFT.out k hkl
   have hvn : v.nu <= 1000000000000000 := by rw [hv3]; exact hou
   have hwn := wbN_at l k hkl
   have HU := hI hv6
   have HUN := hI hv3
   have HEX := hI hv2
   have HO2 := hI ho2
   have HO5 := hI ho5
   have HIT := hI (show itemB (17 - d) l[k] = (nameB l[k].name && refExprB l[k].cond && backsB (17 - d - 1) l[k].unl) from rfl)
   have HTS := hI (wbN_take_succ l k hkl)
   have htl := wbN_take_le l (k + 1)
   have HTL := hI htl
   have hblt := block_lt c0
   rw [hv0] at c0
   simp only at hblt
   clear hrow hv0 hv2 hv3 hv4 hv5 hv6 ho2 ho3 ho4 hou ho5 htl
   obtain ⟨wx, hwx⟩ : ∃ wx, wx = (wr.setCell ⟨bc, 0, none⟩ (.int .i64 ((m : Int) + 1))).alloc (.cells #[.string l[k].name, .int .i64 v.x.op, .string v.x.name, .slice v.x.aw v.x.nw v.x.cw, .int .i64 v.x.lo, .int .i64 v.x.hi, .slice v.x.aa v.x.na v.x.ca, .slice v.au v.nu v.cu] 121) := ⟨_, rfl⟩
   have HBX := hI (show wx.heap[wr.heap.size]? = some (.cells #[.string l[k].name, .int .i64 v.x.op, .string v.x.name, .slice v.x.aw v.x.nw v.x.cw, .int .i64 v.x.lo, .int .i64 v.x.hi, .slice v.x.aa v.x.na v.x.ca, .slice v.au v.nu v.cu] 121 (0, 0)) by
    rw [hwx]
    exact alloc_atR (by simp))
   have HCX := hI (show wx.heap[bc]? = some (.cells #[.int .i64 (((m + 1 : Nat)) : Int)] 3 (0, 0)) by
    rw [hwx]
    have := heap_setCell_same wr bc 0 _ _ (.int .i64 ((m : Int) + 1)) HCB.out
    exact blk_alloc this)
   have HHX := hI (show Chg [bc] wr wx by rw [hwx]; exact ((Chg.refl [bc] wr).setCell (Or.inl (by simp)) _).alloc _)
   go_upto_region 5 with fail
   rw [<- hwx]
   have HXX := hI ((HCH.out.then HHX.out).ext HX0.out (by simpa using HBC.out))
   clear hwx cc0 ccf c0 c1 c2 c3 c4 c5 c6 c7
   obtain ⟨cc0, ccf⟩ := blk1 HCX.out
   have HFAL := hI (fun (h : itemB (17 - d) l[k] = false) => show R = false by
    rw [HR.out, HQ.out]
    have : l.all (itemB (17 - d)) = false := by
     rw [List.all_eq_false]
     exact ⟨l[k], List.getElem_mem hkl, by rw [h]; simp⟩
    rw [this]; simp)
   have HCNT := hI (fun (h : 40 < n + wbN l) => show R = false by
    rw [HR.out]
    have : decide (n + wbN l <= 40) = false := decide_eq_false (by omega)
    rw [this]; simp)
   by_cases h17 : d = 17
   ·have t2 : decide ((16 : Int) < (d : Int)) = true := decide_eq_true (by omega)
    have HF := hI (show R = false by
     rw [HR.out, HQ.out, h17]
     have : ¬ l.length = 0 := by omega
     simp [this])
    go_wp2_with fail
    go_ret
    exact ⟨m + 1, by rw [HF.out]; rfl, HCX.out, by omega, fun h => (by rw [HF.out] at h; cases h), HCH.out.then HHX.out⟩
   have t2 : decide ((16 : Int) < (d : Int)) = false := decide_eq_false (by omega)
   by_cases h40 : 40 < m + 1
   ·have t3 : decide ((40 : Int) < ((m + 1 : Nat) : Int)) = true := decide_eq_true (by omega)
    have HF := hI (HCNT.out (by have h1 := HM.out; have h2 := HTS.out; have h3 := HTL.out; omega))
    go_wp2_with fail
    go_ret
    exact ⟨m + 1, by rw [HF.out]; rfl, HCX.out, by omega, fun h => (by rw [HF.out] at h; cases h), HCH.out.then HHX.out⟩
   have t3 : decide ((40 : Int) < ((m + 1 : Nat) : Int)) = false := decide_eq_false (by omega)
   obtain ⟨c0, c1, c2, c3, c4, c5, c6, c7, cf⟩ := blk8 HBX.out
   have hltx := blk_lt HBX.out
   cases hnb : nameB l[k].name
   ·have HNB := hI hnb
    have HF := hI (HFAL.out (by rw [HIT.out, hnb]; rfl))
    clear hnb
    go_wp2_with fail
    refine (name_calls _ _ ho1).mono ?_
    rintro r w1 ⟨rfl, rfl⟩
    rw [HNB.out]
    go_wp2_with fail
    go_ret
    exact ⟨m + 1, by rw [HF.out]; rfl, HCX.out, by omega, fun h => (by rw [HF.out] at h; cases h), HCH.out.then HHX.out⟩
   have HNB := hI hnb
   rw [hnb, Bool.true_and] at HIT
   clear hnb
   go_wp2_with fail
   refine (name_calls _ _ ho1).mono ?_
   rintro r w1 ⟨rfl, rfl⟩
   rw [HNB.out]
   go_wp2_with fail
   refine (Valid_calls l[k].cond _ wx (HEX.out.mono (HHX.out.sub.trans (mask_sub _ _))) (HO.out.ext HXX.out) HO2.out).mono ?_
   rintro r w2 ⟨rfl, hx2⟩
   rw [validB_ref]
   have HX2 := hI (HXX.out.trans hx2)
   have HC2 := hI (hx2.blk HCX.out)
   have HB2 := hI (hx2.blk HBX.out)
   have HCH2 := hI ((HCH.out.then HHX.out).then (hx2.chg [bc]))
   have HU2 := hI (WbsD.mono ((HHX.out.then (hx2.chg [bc])).sub) _ _ HU.out)
   clear hx2 c0 c1 c2 c3 c4 c5 c6 c7 cf cc0 ccf hltx
   obtain ⟨c0, c1, c2, c3, c4, c5, c6, c7, cf⟩ := blk8 HB2.out
   have hltx := blk_lt HB2.out
   cases hxb : refExprB l[k].cond
   ·have HF := hI (HFAL.out (by rw [HIT.out, hxb]; rfl))
    go_wp2_with fail
    go_ret
    exact ⟨m + 1, by rw [HF.out]; rfl, HC2.out, by omega, fun h => (by rw [HF.out] at h; cases h), HCH2.out⟩
   rw [hxb, Bool.true_and] at HIT
   clear hxb
   have Q1 := hI (show (d : Int) + 1 = ((d + 1 : Nat) : Int) by omega)
   have HWF := hI (IH.out l[k].unl v.au v.nu v.cu (d + 1) (m + 1) bc w2 (by omega) hvn HO5.out (by omega) (by omega) (by omega) HUN.out HU2.out HX2.out HBC.out HC2.out)
   have e1 : 17 - (d + 1) = 17 - d - 1 := by omega
   rw [e1, <- HIT.out] at HWF
   clear e1
   go_wp2_with fail
   rw [Q1.out]
   refine HWF.out.mono ?_
   rintro r w3 ⟨m3, rfl, hc3, hm3, hT3, hch3⟩
   have HC3 := hI hc3
   have HT3 := hI hT3
   have HCH3 := hI (HCH2.out.then hch3)
   clear hc3 hT3 hch3 c0 c1 c2 c3 c4 c5 c6 c7 cf hltx
   cases hib : itemB (17 - d) l[k]
   ·have HF := hI (HFAL.out hib)
    simp only [Bool.false_and]
    clear hib
    go_wp2_with fail
    go_ret
    exact ⟨m3, by rw [HF.out]; rfl, HC3.out, hm3, fun h => (by rw [HF.out] at h; cases h), HCH3.out⟩
   have HIB := hI hib
   rw [hib] at HT3
   clear hib
   simp only [Bool.true_and]
   by_cases hs40 : m + 1 + wbN l[k].unl <= 40
   case neg =>
    have t4 : decide (m + 1 + wbN l[k].unl <= 40) = false := decide_eq_false hs40
    rw [t4]
    have HF := hI (HCNT.out (by have h1 := HM.out; have h2 := HTS.out; have h3 := HTL.out; omega))
    clear t4
    go_wp2_with fail
    go_ret
    exact ⟨m3, by rw [HF.out]; rfl, HC3.out, hm3, fun h => (by rw [HF.out] at h; cases h), HCH3.out⟩
   have t4 : decide (m + 1 + wbN l[k].unl <= 40) = true := decide_eq_true hs40
   rw [t4]
   have HMM := hI (HT3.out (by rw [t4]; rfl))
   clear t4
   go_wp2_with fail
   go_roundw
   case rel =>
    refine ⟨k + 1, m3, by go_num, by omega, fun j hj hjk => ?_, ?_, ?_, ?_, HC3.out, HCH3.out⟩
    ·by_cases e : j = k
     ·subst e; exact HIB.out
     exact HALL.out j hj (by omega)
    ·rw [HTS.out, HMM.out, HM.out]; omega
    ·rw [HMM.out]; exact hs40
    exact Or.inr h17
   case measure => simp [intOf]; omega
theorem firstI_all {f : Nat -> Int} {n : Nat} (h : (firstI f n).2 = 0) : ∀ j, j < n -> f j = 0 := by
 induction n with
 | zero => intro j hj; omega
 | succ n ih =>
  intro j hj
  rw [firstI] at h
  by_cases h1 : (firstI f n).2 ≠ 0
  ·rw [if_pos h1] at h; exact absurd h h1
  rw [if_neg h1] at h
  by_cases h2 : f n ≠ 0
  ·rw [if_pos h2] at h; exact absurd h h2
  by_cases e : j = n
  ·subst e; simpa using h2
  exact ih (by simpa using h1) j (by omega)
theorem schema_attrErr {s : List Attr} (h : schemaErr s = 0) {i : Nat} (hi : i < s.length) : attrErr s[i] = 0 := by
 unfold schemaErr at h
 by_cases h0 : s.length = 0
 ·rw [if_pos h0] at h; cases h
 rw [if_neg h0] at h
 by_cases h6 : 6 < s.length
 ·rw [if_pos h6] at h; cases h
 rw [if_neg h6] at h
 have := firstI_all h i hi
 unfold attrIErr at this
 rw [getD_attr hi] at this
 split at this
 ·cases this
 split at this
 ·cases this
 exact this
theorem attr_lohi {a : Attr} (h : attrErr a = 0) (hk : a.kind = 1 \/ a.kind = 3) : a.lo = 0 /\ a.hi = 0 := by
 unfold attrErr at h
 rcases hk with hk | hk
 ·rw [if_pos hk] at h
  split at h
  ·cases h
  rename_i h1
  omega
 rw [if_neg (by omega), if_neg (by omega), if_pos hk] at h
 split at h
 ·cases h
 rename_i h1
 omega
theorem cnode_eq {s : List Attr} {l : List Cla} (hs : schemaErr s = 0) {e : Ex} (he : okNode e) : cnodeErr s l e.op e.name e.words e.lo e.hi = nodeErr s l e.op e.name e.words e.lo e.hi := by
 have key : ∀ (ws vs : ZB), (ws.all fun x => decide (x ∈ vs)) = ws.all fun x => vs.any fun y => decide (y = x) := by
  intro ws vs
  congr 1
  funext x
  rw [Bool.eq_iff_iff]
  simp
 rcases he with ⟨h1, h2, h3, h4, h5, h6⟩ | ⟨h1, h2, h3, h4, h5, h6⟩ | ⟨h1, h2, h3, h4, h5, h6⟩ | ⟨h1, h2, h3, h4, h5, h6⟩ | ⟨h1, h2, h3, h4, h5, h6⟩ | ⟨h1, h2, h3, h4, h5, h6⟩ | ⟨h1, h2, h3, h4, h5, h6⟩
 ·rw [h1]; rfl
 ·rw [h1]; rfl
 ·rw [h1, h3, h4, h5]
  cases ho : attrAt s e.name with
  | none =>
   rw [cnode_none (by decide) ho]
   simp [nodeErr, ho]
  | some i =>
   have hi := attrAt_lt ho
   have e5 : nodeErr s l 3 e.name [] 0 0 = if s[i].kind ≠ 3 then 9 else 0 := by
    unfold nodeErr
    rw [if_pos rfl, ho]
    simp only [getD_attr hi]
   rw [cnode_some (by decide) ho hi, e5, show kindFor 3 = 3 from rfl]
   by_cases hk : s[i].kind = 3
   ·have := attr_lohi (schema_attrErr hs hi) (Or.inr hk)
    rw [this.1, this.2]
    simp [hk]
   rw [if_pos hk, if_pos hk]
 ·rw [h1, h4, h5]
  cases ho : attrAt s e.name with
  | none =>
   rw [cnode_none (by decide) ho]
   simp [nodeErr, ho]
  | some i =>
   have hi := attrAt_lt ho
   have e5 : nodeErr s l 4 e.name e.words 0 0 = if s[i].kind ≠ 1 then 9 else if (e.words.all fun x => s[i].words.any fun y => decide (y = x)) = false then 7 else 0 := by
    unfold nodeErr
    rw [if_neg (show ¬ (4 : Int) = 3 by decide), if_pos rfl, ho]
    simp only [getD_attr hi]
   rw [cnode_some (by decide) ho hi, e5, show kindFor 4 = 1 from rfl]
   by_cases hk : s[i].kind = 1
   ·have := attr_lohi (schema_attrErr hs hi) (Or.inl hk)
    rw [this.1, this.2, key]
    simp [hk]
   rw [if_pos hk, if_pos hk]
 ·rw [h1, h3]
  cases ho : attrAt s e.name with
  | none =>
   rw [cnode_none (by decide) ho]
   simp [nodeErr, ho]
  | some i =>
   have hi := attrAt_lt ho
   have e5 : nodeErr s l 5 e.name [] e.lo e.hi = if s[i].kind ≠ 2 then 9 else if e.lo < s[i].lo \/ s[i].hi < e.hi then 1 else 0 := by
    unfold nodeErr
    rw [if_neg (show ¬ (5 : Int) = 3 by decide), if_neg (show ¬ (5 : Int) = 4 by decide), if_pos rfl, ho]
    simp only [getD_attr hi]
   rw [cnode_some (by decide) ho hi, e5, show kindFor 5 = 2 from rfl]
   simp
 ·rw [h1]; rfl
 rcases h1 with h1 | h1 <;> (rw [h1]; rfl)
theorem cnodes_calls (s : List Attr) (hse : schemaErr s = 0) (l : List Cla) (hf : ∀ x ∈ s, x.fits) (hsl : s.length <= 1000000000000000) (bm nm : Nat) (m : Nat) : ∀ (e : Ex) (ev sv : Value) (w : World), e.size <= m -> m <= 1000000000000000 -> e.few -> e.fits -> okTree e -> IsSchema w s sv -> DefsAt w l bm nm -> IsEx w e ev ->
  Calls Tryz.prog 100 #[sv, .map (some bm), ev] w (GivesE (.int .i64 (nodesErr s l e)) w) := by
 induction m with
 | zero => intro e ev sv w h; have := size_pos e; omega
 | succ m ih =>
  intro e ev sv w hm hMM hfew hfit hok hs hd he
  obtain ⟨sa, sn, sc, rfl, hsn⟩ := hs.slice
  obtain ⟨hfw, hfa⟩ := few_parts hfew
  obtain ⟨hen, hft⟩ := fits_parts2 hfit
  have HN0 := hI (fun (W : World) (h1 : IsSchema W s (.agg #[.slice sa sn sc])) (h2 : DefsAt W l bm nm) (h3 : IsEx W e ev) => cnode_calls s (.agg #[.slice sa sn sc]) l bm nm e ev W h1 hf hsl h2 h3 hfw hen)
  rw [cnode_eq hse (okTree_parts hok).1] at HN0
  obtain ⟨aw, nw, cw, aa, na, ca, rfl, hw, hna, hca, ha, hx⟩ := he.parts
  have hS : e.size = 1 + sizes e.args := e.size_eq
  have hla := length_le_sizes e.args
  have hna2 : na <= 1000000000000000 := by omega
  have hsz : sizes e.args <= m := by omega
  have HE := hI he
  have HS := hI hs
  have HD := hI hd
  have HX := hI hx
  have HNA := hI hna
  have HFT := hI hft
  have HFA := hI hfa
  have HOK := hI (okTree_parts hok).2
  have HEQ := hI (nodesErr_eq s l e)
  have IH := hI ih
  clear hs hd he hx hna hw hca ha hS hla hsn hfw hfa hfew ih hf hm hft hfit hok
  unfold exV at *
  obtain ⟨wa, hwa⟩ : ∃ wa, wa = (w.alloc (.cells #[.slice sa sn sc] 31)).alloc (.cells #[.int .i64 e.op, .string e.name, .slice aw nw cw, .int .i64 e.lo, .int .i64 e.hi, .slice aa na ca] 26) := ⟨_, rfl⟩
  have hxa : Ext w wa := by rw [hwa]; exact ((Ext.refl _).alloc _).alloc _
  have hb0 : wa.heap[w.heap.size]? = some (.cells #[.slice sa sn sc] 31 (0, 0)) := by rw [hwa]; exact blk_alloc (alloc_new w _)
  have hb1 : wa.heap[w.heap.size + 1]? = some (.cells #[.int .i64 e.op, .string e.name, .slice aw nw cw, .int .i64 e.lo, .int .i64 e.hi, .slice aa na ca] 26 (0, 0)) := by rw [hwa]; exact alloc_atR (by simp)
  have HXA := hI hxa
  have HB0 := hI hb0
  have HB1 := hI hb1
  obtain ⟨a0, af⟩ := blk1 hb0
  obtain ⟨b0, b1, b2, b3, b4, b5, bf⟩ := blk6 hb1
  have hlt1 := blk_lt hb1
  have HN1 := hI (HN0.out wa (HS.out.ext hxa) (HD.out.ext hxa) (HE.out.ext hxa))
  clear hxa hb0 hb1 HN0
  obtain ⟨N, hN⟩ : ∃ N, N = nodeErr s l e.op e.name e.words e.lo e.hi := ⟨_, rfl⟩
  rw [<- hN] at HN1 HEQ
  obtain ⟨E, hE⟩ : ∃ E, E = nodesErr s l e := ⟨_, rfl⟩
  rw [<- hE] at HEQ ⊢
  clear hN hE
  go_enter Tryz.func100, Tryz.ntmps100
  go_upto_region 1 with fail
  rw [<- hwa]
  clear hwa
  go_wp2_with fail
  refine HN1.out.mono ?_
  rintro r w3 ⟨rfl, hx3⟩
  have HX3 := hI (HXA.out.trans hx3)
  have HB03 := hI (hx3.blk HB0.out)
  have HB13 := hI (hx3.blk HB1.out)
  clear hx3 a0 af b0 b1 b2 b3 b4 b5 bf hlt1
  by_cases hz : N = 0
  case neg =>
   have tz : (N != 0) = true := by simp [hz]
   have HQ := hI (show E = N by rw [HEQ.out, if_pos hz])
   clear hz
   go_wp2_with fail
   go_ret
   exact givesE_of (by rw [HQ.out]) HX3.out
  have tz : (N != 0) = false := by simp [hz]
  have HQ := hI (show E = nodesErrL s l e.args by rw [HEQ.out, if_neg (by simpa using hz)])
  clear hz HEQ
  obtain ⟨b0, b1, b2, b3, b4, b5, bf⟩ := blk6 HB13.out
  have hlt1 := blk_lt HB13.out
  go_wp2_with fail
  clear b0 b1 b2 b3 b4 b5 bf hlt1
  go_loopw [21] (fun t wr => ∃ k : Nat, t = .int .i64 k /\ k <= na /\ (∀ j (h : j < e.args.length), j < k -> nodesErr s l e.args[j] = 0) /\ wr.heap[w.heap.size]? = some (.cells #[.slice sa sn sc] 31 (0, 0)) /\ Ext w wr) (fun t _ => na - (intOf t).toNat)
  case atStart => exact ⟨0, rfl, by omega, fun j _ h => by omega, HB03.out, HX3.out⟩
  case round =>
   obtain ⟨k, rfl, hk, hall, hbx, hxr⟩ := hrel
   have HALL := hI hall
   have HBX := hI hbx
   have HXR := hI hxr
   obtain ⟨a0, af⟩ := blk1 hbx
   have hlt0 := blk_lt hbx
   clear hall hbx hxr
   by_cases hkn : k < na
   ·have hka : k < e.args.length := by have := HNA.out; omega
    have t1 : decide ((k : Int) < (na : Int)) = true := decide_eq_true (by omega)
    obtain ⟨b, off, rfl, aw1, nw1, cw1, aa1, na1, ca1, h0, h1, h2, h3, h4, h5, h6⟩ := ExsD.at e.args _ (ExsD.ext HXR.out e.args _ HX.out) k hka
    have hs1 := sizes_take_succ e.args k hka
    have hs2 := sizes_take_le e.args (k + 1)
    have hk1 : e.args[k].size <= m := by omega
    have hblt := block_lt h0
    simp only at hblt
    have HC := hI (fun (W : World) (hW : Ext wr W) => IH.out e.args[k] _ (.agg #[.slice sa sn sc]) W hk1 (by omega) (fewAll_at _ HFA.out k hka) (HFT.out _ (List.getElem_mem hka)) (HOK.out _ (List.getElem_mem hka)) (HS.out.ext (HXR.out.trans hW)) (HD.out.ext (HXR.out.trans hW)) (h6.ext hW))
    unfold exV at HC
    clear h6 hs1 hs2
    obtain ⟨E1, hE1⟩ : ∃ E1, E1 = nodesErr s l e.args[k] := ⟨_, rfl⟩
    rw [<- hE1] at HC
    have HE1 := hI hE1
    clear hE1
    go_wp2_with fail
    refine (HC.out _ ((Ext.refl wr).alloc _)).mono ?_
    rintro r w5 ⟨rfl, hx5⟩
    have HX5 := hI ((HXR.out.alloc _).trans hx5)
    have HB5 := hI (hx5.blk (blk_alloc HBX.out))
    clear hx5 h0 h1 h2 h3 h4 h5 a0 af hlt0 HC
    by_cases hz1 : E1 = 0
    ·have tz1 : (E1 != 0) = false := by simp [hz1]
     have HZ1 := hI (HE1.out.symm.trans hz1)
     clear hz1
     go_wp2_with fail
     go_roundw
     case rel =>
      refine ⟨k + 1, by go_num, by omega, fun j hj hjk => ?_, HB5.out, HX5.out⟩
      by_cases e0 : j = k
      ·subst e0; exact HZ1.out
      exact HALL.out j hj (by omega)
     case measure => simp [intOf]; omega
    have tz1 : (E1 != 0) = true := by simp [hz1]
    have HR := hI (show E = E1 by rw [HQ.out, nodesErrL_hit e.args k hka (by rw [<- HE1.out]; exact hz1) (fun j hj => HALL.out j (by omega) hj), HE1.out])
    clear hz1
    go_wp2_with fail
    go_ret
    exact givesE_of (by rw [HR.out]) HX5.out
   have t1 : decide ((k : Int) < (na : Int)) = false := decide_eq_false (by omega)
   have HR := hI (show E = 0 by rw [HQ.out, nodesErrL_zero e.args fun j hj => HALL.out j hj (by have := HNA.out; omega)])
   go_wp2_with fail
   go_ret
   exact givesE_of (by rw [HR.out]) HXR.out
def exprnErr (s : List Attr) (l : List Cla) (e : Ex) : Int := if refExprB e = false then 5 else nodesErr s l e
def exprErr (s : List Attr) (l : List Cla) (e : Ex) : Int := if schemaErr s ≠ 0 then schemaErr s else exprnErr s l e
theorem ref_okTree {e : Ex} (h : refExprB e = true) : okTree e := by
 rw [refExprB, Bool.and_eq_true, Bool.and_eq_true] at h
 exact (nodes_ok e).1 h.2
theorem cexpression_calls (s : List Attr) (hse : schemaErr s = 0) (l : List Cla) (hf : ∀ x ∈ s, x.fits) (hsl : s.length <= 1000000000000000) (bm nm : Nat) (e : Ex) (ev sv : Value) (w : World) (hfew : e.few) (hfit : e.fits) (ho : HasOps w) (hs : IsSchema w s sv) (hd : DefsAt w l bm nm) (he : IsEx w e ev) :
  Calls Tryz.prog 76 #[sv, .map (some bm), ev] w (GivesE (.int .i64 (exprnErr s l e)) w) := by
 obtain ⟨sa, sn, sc, rfl, hsn⟩ := hs.slice
 have HV := hI (fun (W : World) (hW : Ext w W) => Valid_calls e ev W (he.ext hW) (ho.ext hW) hfit)
 have HNC := hI (fun (W : World) (hW : Ext w W) (hz : refExprB e = true) => cnodes_calls s hse l hf hsl bm nm e.size e ev (.agg #[.slice sa sn sc]) W (Nat.le_refl _) (by
  rw [refExprB, Bool.and_eq_true, Bool.and_eq_true] at hz
  have h2 := hz.1.2
  simp only [decide_eq_true_eq] at h2
  unfold refSize at h2; omega) hfew hfit (ref_okTree hz) (hs.ext hW) (hd.ext hW) (he.ext hW))
 rw [validB_ref] at HV
 obtain ⟨aw, nw, cw, aa, na, ca, rfl, -⟩ := he.parts
 obtain ⟨R, hR⟩ : ∃ R, R = exprnErr s l e := ⟨_, rfl⟩
 rw [<- hR]
 have HR := hI (show R = if refExprB e = false then 5 else nodesErr s l e from hR)
 clear hf hfew hfit ho hs hd he hR hsn
 unfold exV at *
 obtain ⟨wa, hwa⟩ : ∃ wa, wa = (w.alloc (.cells #[.slice sa sn sc] 31)).alloc (.cells #[.int .i64 e.op, .string e.name, .slice aw nw cw, .int .i64 e.lo, .int .i64 e.hi, .slice aa na ca] 26) := ⟨_, rfl⟩
 have hxa : Ext w wa := by rw [hwa]; exact ((Ext.refl _).alloc _).alloc _
 have hb0 : wa.heap[w.heap.size]? = some (.cells #[.slice sa sn sc] 31 (0, 0)) := by rw [hwa]; exact blk_alloc (alloc_new w _)
 have hb1 : wa.heap[w.heap.size + 1]? = some (.cells #[.int .i64 e.op, .string e.name, .slice aw nw cw, .int .i64 e.lo, .int .i64 e.hi, .slice aa na ca] 26 (0, 0)) := by rw [hwa]; exact alloc_atR (by simp)
 have HXA := hI hxa
 have HB0 := hI hb0
 have HB1 := hI hb1
 obtain ⟨b0, b1, b2, b3, b4, b5, bf⟩ := blk6 hb1
 have hlt1 := blk_lt hb1
 have HV1 := hI (HV.out wa hxa)
 clear hxa hb0 hb1 HV
 obtain ⟨B, hB⟩ : ∃ B, B = refExprB e := ⟨_, rfl⟩
 rw [<- hB] at HV1 HR
 have HBB := hI hB
 clear hB
 go_enter Tryz.func76, Tryz.ntmps76
 go_upto_region 1 with fail
 rw [<- hwa]
 clear hwa
 go_wp2_with fail
 refine HV1.out.mono ?_
 rintro r w3 ⟨rfl, hx3⟩
 have HX3 := hI (HXA.out.trans hx3)
 have HB03 := hI (hx3.blk HB0.out)
 have HB13 := hI (hx3.blk HB1.out)
 clear hx3 b0 b1 b2 b3 b4 b5 bf hlt1
 cases B
 ·have HF := hI (show R = 5 by rw [HR.out]; rfl)
  go_wp2_with fail
  go_ret
  exact givesE_of (by rw [HF.out]) HX3.out
 have HF := hI (show R = nodesErr s l e by rw [HR.out]; rfl)
 obtain ⟨b0, b1, b2, b3, b4, b5, bf⟩ := blk6 HB13.out
 obtain ⟨a0, af⟩ := blk1 HB03.out
 have hlt1 := blk_lt HB13.out
 go_wp2_with fail
 refine (HNC.out w3 HX3.out HBB.out.symm).mono ?_
 rintro r w5 ⟨rfl, hx5⟩
 have HX5 := hI (HX3.out.trans hx5)
 clear hx5
 go_wp2_with fail
 go_ret
 exact givesE_of (by rw [HF.out]) HX5.out
def nmsO : Obj := .cells #[.string ⟨#[119]⟩, .string ⟨#[120]⟩, .string ⟨#[121]⟩] 9 (0, 0)
def WbGood (d : Nat) (x : Wb) : Prop := x.name.size <= 1000000000000000 /\ x.cond.fits /\ x.cond.few /\ x.cond.size <= 1000000000000000 /\ wbOk x.unl /\ wbN x.unl <= bndB d
theorem DeckAt.lt {w0 w : World} {bd : Nat} (h : DeckAt w0 w bd) : bd < w.heap.size := by obtain ⟨_, _, _, _, hb, _⟩ := h; exact blk_lt hb
def bk5R (d bd bw : Nat) (M N : ZN) (l : List Wb) (ws : List WbV) (sa : OA) (sn sc : Nat) (an : OA) (nn cn : Nat) (va : OA) (vc : Nat) : Nat -> Value -> World -> Prop
 | 0, u, _ => u = .slice va l.length vc
 | 1, u, W => ∃ (g : Nat), u = .slice (some ⟨g, 0, none⟩) 3 3 /\ (W.heap[g]? = some nmsO /\ g ≠ bd)
 | 2, u, _ => u = .pointer (some ⟨bd, 0, none⟩)
 | 3, u, _ => ∃ (r : Nat), u = .int .i64 ((r : Nat) : Int) /\ r < 3
 | 4, u, W => ∃ (g : Nat) (r : Nat), u = .pointer (some ⟨g, r, none⟩) /\ (W.heap[g]? = some nmsO /\ g ≠ bd /\ r < 3)
 | 5, u, _ => ∃ (s : BA), u = .string s /\ s.size <= 1
 | 6, u, _ => u = .pointer (some ⟨bd, 0, none⟩)
 | 7, u, _ => u = .agg #[.slice sa sn sc]
 | 8, u, _ => u = .slice an nn cn
 | 9, u, W => ∃ (x : Ex) (xv : ExV), u = ExV.val xv /\ (MadeOk 2 x /\ IsEx (mask W N) x (ExV.val xv))
 | 10, u, _ => u = .pointer (some ⟨bd, 0, none⟩)
 | 11, u, _ => u = .agg #[.slice sa sn sc]
 | 12, u, _ => u = .slice an nn cn
 | 13, u, _ => u = .int .i64 ((d : Int) + 1)
 | 14, u, _ => u = .int .i64 d
 | 15, u, W => ∃ (bl : List Wb) (ba : OA) (bn : Nat) (bc : Nat), u = .slice ba bn bc /\ (bn = bl.length /\ bn <= bc /\ OkAddr ba bc /\ WbsD (mask W N) bl ba /\ wbOk bl /\ wbN bl <= bndB d)
 | 16, u, W => ∃ (x : Wb) (wv : WbV), u = .agg #[.string wv.name, .int .i64 wv.x.op, .string wv.x.name, .slice wv.x.aw wv.x.nw wv.x.cw, .int .i64 wv.x.lo, .int .i64 wv.x.hi, .slice wv.x.aa wv.x.na wv.x.ca, .slice wv.au wv.nu wv.cu] /\ (IsWb (mask W N) x wv /\ WbGood d x)
 | 17, u, W => ∃ (x : Wb) (wv : WbV) (g : Nat), u = .slice (some ⟨g, 0, none⟩) 1 1 /\ (W.heap[g]? = some (.cells wv.cells.toArray 121 (0, 0)) /\ g ≠ bd /\ IsWb (mask W N) x wv /\ WbGood d x)
 | _, u, W => ∃ (x : Wb) (wv : WbV) (v2 : Value), u = v2 /\ (W.ownsRow (bw + 1) 121 8 v2 (l.length + 1) (ws.flatMap WbV.cells ++ wv.cells) /\ WbsR (mask W (bd :: rowOf v2 ++ M)) (l ++ [x]) (ws ++ [wv]) /\ WbGood d x)
theorem backs_calls {attrs : List Attr} (hat : attrs ∈ schemas) (names : ZB) (hok : ∀ a ∈ attrs, OkAttr a) (hne : attrs ≠ []) (hl : attrs.length <= 1000) (hnl : names.length <= 1000) (hns : ∀ x ∈ names, x.size <= 1000) : ∀ (d : Nat), d <= 10 -> ∀ {w0 w : World} {bd : Nat} (_ : DeckAt w0 w bd) (sa : OA) (sn sc : Nat) (an : OA) (nn cn : Nat) (M : ZN) (_ : IsSchema (mask w [bd]) attrs (.agg #[.slice sa sn sc])) (_ : IsStrs (mask w [bd]) names an nn cn) (_ : ∀ y ∈ M, y < w.heap.size),
  Calls Tryz.prog 66 #[.pointer (some ⟨bd, 0, none⟩), .agg #[.slice sa sn sc], .slice an nn cn, .int .i64 (d : Nat)] w (BacksQ d w0 bd M w) := by
 intro d
 induction d with
 | zero =>
  intro _ w0 w bd hd sa sn sc an nn cn M hs hn hM
  have HD := hI (hd.ext ((Ext.refl w).alloc (.cells #[.slice sa sn sc] 31)))
  clear hd hs hn
  go_enter Tryz.func66, Tryz.ntmps66
  go_wp2_with fail
  refine (next_calls HD.out 3 (by omega) (by omega)).mono ?_
  rintro e w1 ⟨z, rfl, hz0, hz1, hd1, hc1⟩
  have HD1 := hI hd1
  have HC1 := hI ((((Ext.refl w).alloc (.cells #[.slice sa sn sc] 31)).chg [bd]).then hc1)
  clear hd1 hc1
  go_wp2_with fail
  go_loopw [9, 10] (fun v k wr => v = .slice none 0 0 /\ k = .int .i64 z /\ wr = w1) (fun _ k _ => (intOf k).toNat)
  case atStart => exact ⟨rfl, rfl, rfl⟩
  case round =>
   obtain ⟨rfl, rfl, rfl⟩ := hrel
   by_cases hq : 0 < z
   ·have t14 : decide (0 < z) = true := decide_eq_true hq
    go_wp2_with fail
    go_ret
    exact ⟨[], none, 0, 0, rfl, rfl, Nat.le_refl _, Or.inl ⟨rfl, rfl⟩, by unfold WbsD; trivial, by unfold wbOk; trivial, by simp [wbN], HD1.out, HC1.out⟩
   have t14 : decide (0 < z) = false := decide_eq_false hq
   go_wp2_with fail
   go_ret
   exact ⟨[], none, 0, 0, rfl, rfl, Nat.le_refl _, Or.inl ⟨rfl, rfl⟩, by unfold WbsD; trivial, by unfold wbOk; trivial, by simp [wbN], HD1.out, HC1.out⟩
 | succ d ih =>
  intro hd10 w0 w bd hd sa sn sc an nn cn M hs hn hM
  have hbw := hd.lt
  have hb0 : w0.heap.size <= bd := by obtain ⟨_, _, _, _, _, _, _, _, _, h⟩ := hd; exact h
  have HB0 := hI (show w0.heap.size <= w.heap.size + 1 by omega)
  have HBW := hI hbw
  have HD := hI (hd.ext ((Ext.refl w).alloc (.cells #[.slice sa sn sc] 31)))
  have HS := hI hs
  have HN := hI hn
  have HM := hI hM
  have IH := Lib.hid @ih
  have HOKK := hI hok
  have HB1 := hI (alloc_new w (.cells #[.slice sa sn sc] 31))
  clear hd hs hn hM ih hok hbw hb0
  go_enter Tryz.func66, Tryz.ntmps66
  go_wp2_with fail
  refine (next_calls HD.out 3 (by omega) (by omega)).mono ?_
  rintro e w1 ⟨z, rfl, hz0, hz1, hd1, hc1⟩
  have HD1 := hI hd1
  have HC1 := hI ((((Ext.refl w).alloc (.cells #[.slice sa sn sc] 31)).chg [bd]).then hc1)
  have HB2 := hI (hc1.blk HB1.out (by have := HBW.out; simp; omega))
  obtain ⟨bw, hbw⟩ : ∃ bw, bw = w.heap.size := ⟨_, rfl⟩
  have HBE := hI hbw
  rw [<- hbw] at HB2 HB0 HBW HM ⊢
  clear hd1 hc1 HB1 HD hbw
  go_wp2_with fail
  go_loopw [9, 10] (BkL w0 w d bd bw M sa sn sc) (fun _ k _ => (intOf k).toNat)
  case atStart => exact ⟨[], [], z, rfl, by simp; omega, hz0, World.ownsRow_nil _ _ _ _, WbsR.nil _, by unfold wbOk; trivial, by simp [wbN], HD1.out, HC1.out, HB2.out⟩
  case round =>
   obtain ⟨l, ws, q, rfl, hq2, hq0, hown, hwr, hok, hwn, hdk, hcg, hbx⟩ := hrel
   obtain ⟨va, vc, hv⟩ := owns_formG hown
   subst hv
   have HOW := hI hown
   have HWL := hI hwr
   have HWO := hI hok
   have HWN := hI hwn
   have HDK := hI hdk
   have HCG := hI hcg
   have HBX := hI hbx
   have HSZ := hI (show bw + 1 <= wr.heap.size from blk_lt hbx)
   clear hown hwr hok hwn hdk hcg hbx HD1 HC1 HB2
   by_cases hq : 0 < q
   ·have t14 : decide (0 < q) = true := decide_eq_true hq
    have t17 : decide ((0 : Int) < (d : Int) + 1) = true := decide_eq_true (by omega)
    have hl2 : l.length <= 2 := by omega
    obtain ⟨N, hN⟩ : ∃ N, N = bd :: rowOf (.slice va l.length vc) ++ M := ⟨_, rfl⟩
    have HNN := hI (show bd ∈ N by rw [hN]; simp)
    have HNL := hI (show ∀ y ∈ N, y < wr.heap.size by
     intro y hy
     rw [hN] at hy
     simp only [List.cons_append, List.mem_cons, List.mem_append] at hy
     have := HSZ.out; have := HBW.out
     rcases hy with rfl | hy | hy
     ·omega
     ·exact (HOW.out.lt y (mem_rowOf.1 hy)).2
     have := HM.out y hy; omega)
    have HWR := hI (show ∀ W, Chg [bd] wr W -> WbsR (mask W N) l ws from fun W hW => by rw [hN]; exact HWL.out.mono (mask_step hW (by simp)))
    have HKP := hI (show ∀ W w2 g2 cap, Chg [bd] wr W -> Chg (rowOf (.slice va l.length vc)) W w2 -> ((Value.slice va l.length vc).ownBlock = some g2 \/ g2 = W.heap.size) -> Sub (mask W N) (mask w2 (bd :: rowOf (.slice (some ⟨g2, 0, none⟩) (l.length + 1) cap) ++ M)) from fun W w2 g2 cap hW hc hg => by
     rw [hN]
     refine mask_sub_mask fun k hk hn => ⟨fun hm => ?_, hc.block k hk fun hm => hn (by simp [hm])⟩
     simp only [List.cons_append, List.mem_cons, List.mem_append] at hm hn
     rcases hm with h | h | h
     ·exact hn (Or.inl h)
     ·have h2 := mem_rowOf.1 h
      simp only [Value.ownBlock, Option.some.injEq] at h2
      rcases hg with e | e
      ·exact hn (Or.inr (Or.inl (mem_rowOf.2 (by rw [e, h2]))))
      omega
     exact hn (Or.inr (Or.inr h)))
    have HDX := hI (show ∀ W, DeckAt w0 W bd -> Chg [bd] wr W -> Calls Tryz.prog 24 #[.pointer (some ⟨bd, 0, none⟩), .agg #[.slice sa sn sc], .slice an nn cn, .int .i64 2] W (MadeQ (MadeOk 2) w0 bd N W) from fun W hd hW =>
     (dexpr_calls attrs names HOKK.out hne hl hnl 1 (by omega) hd sa sn sc an nn cn N (HS.out.mono (mask_step (HCG.out.then hW) (by simp))) (HN.out.mono (mask_step (HCG.out.then hW) (by simp))) (fun y hy => Nat.lt_of_lt_of_le (HNL.out y hy) hW.size)).mono fun e w' h => h.mono fun x hx => made_okay hat hns 2 x hx)
    have HIH := hI (show ∀ W, DeckAt w0 W bd -> Chg [bd] wr W -> Calls Tryz.prog 66 #[.pointer (some ⟨bd, 0, none⟩), .agg #[.slice sa sn sc], .slice an nn cn, .int .i64 (d : Nat)] W (BacksQ d w0 bd N W) from fun W hd hW =>
     IH.out (by omega) hd sa sn sc an nn cn N (HS.out.mono (mask_step (HCG.out.then hW) (by simp))) (HN.out.mono (mask_step (HCG.out.then hW) (by simp))) (fun y hy => Nat.lt_of_lt_of_le (HNL.out y hy) hW.size))
    clear hN
    go_upto_region 5 with fail
    refine wp_region_growL (m := 19) [18] (GnL w0 wr bd 18 (rowOf (.slice va l.length vc))) (GnB bd 18 (rowOf (.slice va l.length vc))) (GrP (bk5R d bd bw M N l ws sa sn sc an nn cn va vc)) (by kernel_rfl) (by kernel_rfl) ⟨HDK.out.ext ((Ext.refl wr).drew), ((Ext.refl wr).drew).chg _, fun _ => ((Ext.refl wr).drew).chg _⟩ ?_ ?_ ?_
    ·intro i k v W W' hi hk hne hout h hE
     have hi' := ltc19 hi
     clear hi hk
     by_cases hk : k = 18
     ·subst hk
      exfalso
      rcases hi' with rfl | rfl | rfl | rfl | rfl | rfl | rfl | rfl | rfl | rfl | rfl | rfl | rfl | rfl | rfl | rfl | rfl | rfl | rfl
      ·exact absurd hout (by decide +kernel)
      ·exact absurd hout (by decide +kernel)
      ·exact absurd hout (by decide +kernel)
      ·exact absurd hout (by decide +kernel)
      ·exact absurd hout (by decide +kernel)
      ·exact absurd hout (by decide +kernel)
      ·exact absurd hout (by decide +kernel)
      ·exact absurd hout (by decide +kernel)
      ·exact absurd hout (by decide +kernel)
      ·exact absurd hout (by decide +kernel)
      ·exact absurd hout (by decide +kernel)
      ·exact absurd hout (by decide +kernel)
      ·exact absurd hout (by decide +kernel)
      ·exact absurd hout (by decide +kernel)
      ·exact absurd hout (by decide +kernel)
      ·exact absurd hout (by decide +kernel)
      ·exact absurd hout (by decide +kernel)
      ·exact absurd hout (by decide +kernel)
      exact hne rfl
     have hE : Chg [bd] W W' := (by have h9 := hE; unfold GnB at h9; rwa [if_neg hk] at h9)
     rcases hi' with rfl | rfl | rfl | rfl | rfl | rfl | rfl | rfl | rfl | rfl | rfl | rfl | rfl | rfl | rfl | rfl | rfl | rfl | rfl
     ·exact h
     ·obtain ⟨g, e0, h⟩ := h
      exact ⟨g, e0, ⟨hE.blk h.1 (by simpa using h.2), h.2⟩⟩
     ·exact h
     ·obtain ⟨r, e0, h⟩ := h
      exact ⟨r, e0, h⟩
     ·obtain ⟨g, r, e0, h⟩ := h
      exact ⟨g, r, e0, ⟨hE.blk h.1 (by simpa using h.2.1), h.2⟩⟩
     ·obtain ⟨s, e0, h⟩ := h
      exact ⟨s, e0, h⟩
     ·exact h
     ·exact h
     ·exact h
     ·obtain ⟨x, xv, e0, h⟩ := h
      exact ⟨x, xv, e0, ⟨h.1, h.2.mono (mask_step hE HNN.out)⟩⟩
     ·exact h
     ·exact h
     ·exact h
     ·exact h
     ·exact h
     ·obtain ⟨bl, ba, bn, bc, e0, h⟩ := h
      exact ⟨bl, ba, bn, bc, e0, ⟨h.1, h.2.1, h.2.2.1, WbsD.mono (mask_step hE HNN.out) _ _ h.2.2.2.1, h.2.2.2.2⟩⟩
     ·obtain ⟨x, wv, e0, h⟩ := h
      exact ⟨x, wv, e0, ⟨h.1.mono (mask_step hE HNN.out), h.2⟩⟩
     ·obtain ⟨x, wv, g, e0, h⟩ := h
      exact ⟨x, wv, g, e0, ⟨hE.blk h.1 (by simpa using h.2.1), h.2.1, h.2.2.1.mono (mask_step hE HNN.out), h.2.2.2⟩⟩
     obtain ⟨x, wv, v2, e0, h⟩ := h
     exact ⟨x, wv, v2, e0, ⟨owns_chg h.1 hE (fun q hq hm => by simp only [List.mem_singleton] at hm; have := (h.1.lt q hq).1; have := HBW.out; omega), h.2.1.mono (mask_step hE (by simp)), h.2.2⟩⟩
    ·intro q op hq ho L vs W hqL hcL hW hd ρ hρ
     have hq' := ltc19 hq
     clear hq
     have o9 : ρ (.tmp 9) = .slice va l.length vc := hρ.out 9 rfl
     have o0 : ρ (.tmp 0) = .pointer (some ⟨bd, 0, none⟩) := hρ.out 0 rfl
     have i2 := hρ.i 2 23
     have i1 := hρ.i 1 22
     have i3 := hρ.i 3 24
     have i4 := hρ.i 4 25
     have o5 : ρ (.tmp 5) = .pointer (some ⟨bw, 0, none⟩) := hρ.out 5 rfl
     have o2 : ρ (.tmp 2) = .slice an nn cn := hρ.out 2 rfl
     have i6 := hρ.i 6 27
     have i7 := hρ.i 7 28
     have i8 := hρ.i 8 29
     have o3 : ρ (.tmp 3) = .int .i64 ((d : Int) + 1) := hρ.out 3 rfl
     have i13 := hρ.i 13 34
     have i10 := hρ.i 10 31
     have i11 := hρ.i 11 32
     have i12 := hρ.i 12 33
     have i14 := hρ.i 14 35
     have i5 := hρ.i 5 26
     have i9 := hρ.i 9 30
     have i15 := hρ.i 15 36
     have i16 := hρ.i 16 37
     have i0 := hρ.i 0 21
     have i17 := hρ.i 17 38
     have hc := hρ.const
     have hfn := hρ.func
     clear hρ
     rcases hq' with rfl | rfl | rfl | rfl | rfl | rfl | rfl | rfl | rfl | rfl | rfl | rfl | rfl | rfl | rfl | rfl | rfl | rfl | rfl
     ·have hnq : 18 ∉ L := fun h => absurd (hcL 18 h) (by decide +kernel)
      have HW := hI (show DeckAt w0 W bd /\ Chg [bd] wr W from ⟨hW.1, hW.2.2 hnq⟩)
      clear hW hqL hcL
      have HNQ := hI hnq
      clear hnq
      cases ho
      clear hd
      unfold GivesOp
      go_simp
      exact ⟨Chg.refl _ _, gnl HW.out HW.out.1 (Chg.refl _ _), rfl⟩
     ·have hnq : 18 ∉ L := fun h => absurd (hcL 18 h) (by decide +kernel)
      have HW := hI (show DeckAt w0 W bd /\ Chg [bd] wr W from ⟨hW.1, hW.2.2 hnq⟩)
      clear hW hqL hcL
      have HNQ := hI hnq
      clear hnq
      cases ho
      clear hd
      unfold GivesOp
      go_simp
      exact ⟨((Ext.refl W).alloc _).chg _, gnl HW.out (HW.out.1.ext ((Ext.refl W).alloc _)) (((Ext.refl W).alloc _).chg [bd]), W.heap.size, rfl, alloc_new W _, by have := HW.out.1.lt; omega⟩
     ·have hnq : 18 ∉ L := fun h => absurd (hcL 18 h) (by decide +kernel)
      have HW := hI (show DeckAt w0 W bd /\ Chg [bd] wr W from ⟨hW.1, hW.2.2 hnq⟩)
      clear hW hqL hcL
      have HNQ := hI hnq
      clear hnq
      cases ho
      clear hd
      unfold GivesOp
      go_simp
      exact ⟨Chg.refl _ _, gnl HW.out HW.out.1 (Chg.refl _ _), rfl⟩
     ·have hnq : 18 ∉ L := fun h => absurd (hcL 18 h) (by decide +kernel)
      have HW := hI (show DeckAt w0 W bd /\ Chg [bd] wr W from ⟨hW.1, hW.2.2 hnq⟩)
      clear hW hqL hcL
      have HNQ := hI hnq
      clear hnq
      cases ho
      have h2 : vs 2 = _ := hd ⟨2, .data⟩ (by simp) rfl
      rw [h2] at i2
      clear hd
      unfold GivesOp
      go_simp
      refine (next_calls HW.out.1 3 (by omega) (by omega)).mono ?_
      rintro e5 w5 ⟨z, rfl, hz0, hz1, hd5, hc5⟩
      obtain ⟨r, rfl⟩ : ∃ r : Nat, z = r := ⟨z.toNat, by omega⟩
      exact ⟨_, rfl, hc5, gnl HW.out hd5 hc5, r, rfl, by omega⟩
     ·have hnq : 18 ∉ L := fun h => absurd (hcL 18 h) (by decide +kernel)
      have HW := hI (show DeckAt w0 W bd /\ Chg [bd] wr W from ⟨hW.1, hW.2.2 hnq⟩)
      clear hW hqL hcL
      have HNQ := hI hnq
      clear hnq
      cases ho
      obtain ⟨g, h1, hs1⟩ : ∃ (g : Nat), vs 1 = .slice (some ⟨g, 0, none⟩) 3 3 /\ (W.heap[g]? = some nmsO /\ g ≠ bd) := hd ⟨1, .data⟩ (by simp) rfl
      have HS1 := hI hs1
      clear hs1
      rw [h1] at i1
      obtain ⟨r, h3, hs3⟩ : ∃ (r : Nat), vs 3 = .int .i64 ((r : Nat) : Int) /\ r < 3 := hd ⟨3, .data⟩ (by simp) rfl
      have HS3 := hI hs3
      clear hs3
      rw [h3] at i3
      clear hd
      have b0 : (0 : Int) <= ((r : Nat) : Int) := by omega
      have b1 : ((r : Nat) : Int) < 3 := by have := HS3.out; omega
      unfold GivesOp
      go_simp
      exact ⟨Chg.refl _ _, gnl HW.out HW.out.1 (Chg.refl _ _), g, r, rfl, HS1.out.1, HS1.out.2, HS3.out⟩
     ·have hnq : 18 ∉ L := fun h => absurd (hcL 18 h) (by decide +kernel)
      have HW := hI (show DeckAt w0 W bd /\ Chg [bd] wr W from ⟨hW.1, hW.2.2 hnq⟩)
      clear hW hqL hcL
      have HNQ := hI hnq
      clear hnq
      cases ho
      obtain ⟨g, r, h4, hs4⟩ : ∃ (g : Nat) (r : Nat), vs 4 = .pointer (some ⟨g, r, none⟩) /\ (W.heap[g]? = some nmsO /\ g ≠ bd /\ r < 3) := hd ⟨4, .data⟩ (by simp) rfl
      have HS4 := hI hs4
      clear hs4
      rw [h4] at i4
      clear hd
      have hr3 : r = 0 \/ r = 1 \/ r = 2 := by have := HS4.out.2.2; omega
      obtain ⟨s, hs, hss⟩ : ∃ s : BA, W.cell? ⟨g, r, none⟩ = some (.string s) /\ s.size <= 1 := by
       rcases hr3 with rfl | rfl | rfl
       ·exact ⟨_, blk_cell HS4.out.1 0, by decide⟩
       ·exact ⟨_, blk_cell HS4.out.1 1, by decide⟩
       exact ⟨_, blk_cell HS4.out.1 2, by decide⟩
      clear hr3
      unfold GivesOp
      go_simp
      exact ⟨Chg.refl _ _, gnl HW.out HW.out.1 (Chg.refl _ _), s, rfl, hss⟩
     ·have hnq : 18 ∉ L := fun h => absurd (hcL 18 h) (by decide +kernel)
      have HW := hI (show DeckAt w0 W bd /\ Chg [bd] wr W from ⟨hW.1, hW.2.2 hnq⟩)
      clear hW hqL hcL
      have HNQ := hI hnq
      clear hnq
      cases ho
      clear hd
      unfold GivesOp
      go_simp
      exact ⟨Chg.refl _ _, gnl HW.out HW.out.1 (Chg.refl _ _), rfl⟩
     ·have hnq : 18 ∉ L := fun h => absurd (hcL 18 h) (by decide +kernel)
      have HW := hI (show DeckAt w0 W bd /\ Chg [bd] wr W from ⟨hW.1, hW.2.2 hnq⟩)
      clear hW hqL hcL
      have HNQ := hI hnq
      clear hnq
      cases ho
      clear hd
      obtain ⟨g7, gf7⟩ := blk1 (HW.out.2.blk HBX.out (by have := HBW.out; simp; omega))
      unfold GivesOp
      go_simp
      exact ⟨Chg.refl _ _, gnl HW.out HW.out.1 (Chg.refl _ _), rfl⟩
     ·have hnq : 18 ∉ L := fun h => absurd (hcL 18 h) (by decide +kernel)
      have HW := hI (show DeckAt w0 W bd /\ Chg [bd] wr W from ⟨hW.1, hW.2.2 hnq⟩)
      clear hW hqL hcL
      have HNQ := hI hnq
      clear hnq
      cases ho
      clear hd
      unfold GivesOp
      go_simp
      exact ⟨Chg.refl _ _, gnl HW.out HW.out.1 (Chg.refl _ _), rfl⟩
     ·have hnq : 18 ∉ L := fun h => absurd (hcL 18 h) (by decide +kernel)
      have HW := hI (show DeckAt w0 W bd /\ Chg [bd] wr W from ⟨hW.1, hW.2.2 hnq⟩)
      clear hW hqL hcL
      have HNQ := hI hnq
      clear hnq
      cases ho
      have h6 : vs 6 = _ := hd ⟨6, .data⟩ (by simp) rfl
      rw [h6] at i6
      have h7 : vs 7 = _ := hd ⟨7, .data⟩ (by simp) rfl
      rw [h7] at i7
      have h8 : vs 8 = _ := hd ⟨8, .data⟩ (by simp) rfl
      rw [h8] at i8
      clear hd
      unfold GivesOp
      go_simp
      refine (HDX.out W HW.out.1 HW.out.2).mono ?_
      rintro e5 w5 ⟨x, xv, rfl, hm5, hi5, hd5, hc5⟩
      exact ⟨_, rfl, hc5, gnl HW.out hd5 hc5, x, xv, rfl, hm5, hi5⟩
     ·have hnq : 18 ∉ L := fun h => absurd (hcL 18 h) (by decide +kernel)
      have HW := hI (show DeckAt w0 W bd /\ Chg [bd] wr W from ⟨hW.1, hW.2.2 hnq⟩)
      clear hW hqL hcL
      have HNQ := hI hnq
      clear hnq
      cases ho
      clear hd
      unfold GivesOp
      go_simp
      exact ⟨Chg.refl _ _, gnl HW.out HW.out.1 (Chg.refl _ _), rfl⟩
     ·have hnq : 18 ∉ L := fun h => absurd (hcL 18 h) (by decide +kernel)
      have HW := hI (show DeckAt w0 W bd /\ Chg [bd] wr W from ⟨hW.1, hW.2.2 hnq⟩)
      clear hW hqL hcL
      have HNQ := hI hnq
      clear hnq
      cases ho
      clear hd
      obtain ⟨g7, gf7⟩ := blk1 (HW.out.2.blk HBX.out (by have := HBW.out; simp; omega))
      unfold GivesOp
      go_simp
      exact ⟨Chg.refl _ _, gnl HW.out HW.out.1 (Chg.refl _ _), rfl⟩
     ·have hnq : 18 ∉ L := fun h => absurd (hcL 18 h) (by decide +kernel)
      have HW := hI (show DeckAt w0 W bd /\ Chg [bd] wr W from ⟨hW.1, hW.2.2 hnq⟩)
      clear hW hqL hcL
      have HNQ := hI hnq
      clear hnq
      cases ho
      clear hd
      unfold GivesOp
      go_simp
      exact ⟨Chg.refl _ _, gnl HW.out HW.out.1 (Chg.refl _ _), rfl⟩
     ·have hnq : 18 ∉ L := fun h => absurd (hcL 18 h) (by decide +kernel)
      have HW := hI (show DeckAt w0 W bd /\ Chg [bd] wr W from ⟨hW.1, hW.2.2 hnq⟩)
      clear hW hqL hcL
      have HNQ := hI hnq
      clear hnq
      cases ho
      clear hd
      unfold GivesOp
      go_simp
      exact ⟨Chg.refl _ _, gnl HW.out HW.out.1 (Chg.refl _ _), rfl⟩
     ·have hnq : 18 ∉ L := fun h => absurd (hcL 18 h) (by decide +kernel)
      have HW := hI (show DeckAt w0 W bd /\ Chg [bd] wr W from ⟨hW.1, hW.2.2 hnq⟩)
      clear hW hqL hcL
      have HNQ := hI hnq
      clear hnq
      cases ho
      have h13 : vs 13 = _ := hd ⟨13, .data⟩ (by simp) rfl
      rw [h13] at i13
      clear hd
      have hwd : IntKind.i64.wrap ((d : Nat) : Int) = ((d : Nat) : Int) := IntWalk.i64_in _ (by omega)
      unfold GivesOp
      go_simp
      try rw [hwd]
      exact ⟨Chg.refl _ _, gnl HW.out HW.out.1 (Chg.refl _ _), rfl⟩
     ·have hnq : 18 ∉ L := fun h => absurd (hcL 18 h) (by decide +kernel)
      have HW := hI (show DeckAt w0 W bd /\ Chg [bd] wr W from ⟨hW.1, hW.2.2 hnq⟩)
      clear hW hqL hcL
      have HNQ := hI hnq
      clear hnq
      cases ho
      have h10 : vs 10 = _ := hd ⟨10, .data⟩ (by simp) rfl
      rw [h10] at i10
      have h11 : vs 11 = _ := hd ⟨11, .data⟩ (by simp) rfl
      rw [h11] at i11
      have h12 : vs 12 = _ := hd ⟨12, .data⟩ (by simp) rfl
      rw [h12] at i12
      have h14 : vs 14 = _ := hd ⟨14, .data⟩ (by simp) rfl
      rw [h14] at i14
      clear hd
      unfold GivesOp
      go_simp
      refine (HIH.out W HW.out.1 HW.out.2).mono ?_
      rintro e5 w5 ⟨bl, ba, bn, bc, rfl, q1, q2, q3, q4, q5, q6, hd5, hc5⟩
      exact ⟨_, rfl, hc5, gnl HW.out hd5 hc5, bl, ba, bn, bc, rfl, q1, q2, q3, q4, q5, q6⟩
     ·have hnq : 18 ∉ L := fun h => absurd (hcL 18 h) (by decide +kernel)
      have HW := hI (show DeckAt w0 W bd /\ Chg [bd] wr W from ⟨hW.1, hW.2.2 hnq⟩)
      clear hW hqL hcL
      have HNQ := hI hnq
      clear hnq
      cases ho
      obtain ⟨s, h5, hs5⟩ : ∃ (s : BA), vs 5 = .string s /\ s.size <= 1 := hd ⟨5, .data⟩ (by simp) rfl
      have HS5 := hI hs5
      clear hs5
      rw [h5] at i5
      obtain ⟨x, xv, h9, hs9⟩ : ∃ (x : Ex) (xv : ExV), vs 9 = ExV.val xv /\ (MadeOk 2 x /\ IsEx (mask W N) x (ExV.val xv)) := hd ⟨9, .data⟩ (by simp) rfl
      have HS9 := hI hs9
      clear hs9
      rw [h9] at i9
      obtain ⟨bl, ba, bn, bc, h15, hs15⟩ : ∃ (bl : List Wb) (ba : OA) (bn : Nat) (bc : Nat), vs 15 = .slice ba bn bc /\ (bn = bl.length /\ bn <= bc /\ OkAddr ba bc /\ WbsD (mask W N) bl ba /\ wbOk bl /\ wbN bl <= bndB d) := hd ⟨15, .data⟩ (by simp) rfl
      have HS15 := hI hs15
      clear hs15
      rw [h15] at i15
      clear hd
      unfold ExV.val exV at i9
      unfold GivesOp
      go_simp
      exact ⟨Chg.refl _ _, gnl HW.out HW.out.1 (Chg.refl _ _), .mk s x bl, ⟨s, xv, ba, bn, bc⟩, rfl, ⟨rfl, HS9.out.2, HS15.out.1, HS15.out.2.1, HS15.out.2.2.1, HS15.out.2.2.2.1⟩, Nat.le_trans HS5.out (by omega), HS9.out.1.fits, HS9.out.1.few, Nat.le_trans HS9.out.1.size (by simp only [bndS]; omega), HS15.out.2.2.2.2.1, HS15.out.2.2.2.2.2⟩
     ·have hnq : 18 ∉ L := fun h => absurd (hcL 18 h) (by decide +kernel)
      have HW := hI (show DeckAt w0 W bd /\ Chg [bd] wr W from ⟨hW.1, hW.2.2 hnq⟩)
      clear hW hqL hcL
      have HNQ := hI hnq
      clear hnq
      cases ho
      obtain ⟨x, wv, h16, hs16⟩ : ∃ (x : Wb) (wv : WbV), vs 16 = .agg #[.string wv.name, .int .i64 wv.x.op, .string wv.x.name, .slice wv.x.aw wv.x.nw wv.x.cw, .int .i64 wv.x.lo, .int .i64 wv.x.hi, .slice wv.x.aa wv.x.na wv.x.ca, .slice wv.au wv.nu wv.cu] /\ (IsWb (mask W N) x wv /\ WbGood d x) := hd ⟨16, .data⟩ (by simp) rfl
      have HS16 := hI hs16
      clear hs16
      rw [h16] at i16
      clear hd
      unfold GivesOp
      go_simp
      exact ⟨((Ext.refl W).alloc _).chg _, gnl HW.out (HW.out.1.ext ((Ext.refl W).alloc _)) (((Ext.refl W).alloc _).chg [bd]), x, wv, W.heap.size, rfl, alloc_new W _, by have := HW.out.1.lt; omega, HS16.out.1.mono (mask_step (((Ext.refl W).alloc _).chg [bd]) HNN.out), HS16.out.2⟩
     have hnq : 18 ∉ L := hqL
     have HW := hI (show DeckAt w0 W bd /\ Chg [bd] wr W from ⟨hW.1, hW.2.2 hnq⟩)
     clear hW hqL hcL
     have HNQ := hI hnq
     clear hnq
     cases ho
     have h0 : vs 0 = _ := hd ⟨0, .data⟩ (by simp) rfl
     rw [h0] at i0
     obtain ⟨x, wv, g, h17, hs17⟩ : ∃ (x : Wb) (wv : WbV) (g : Nat), vs 17 = .slice (some ⟨g, 0, none⟩) 1 1 /\ (W.heap[g]? = some (.cells wv.cells.toArray 121 (0, 0)) /\ g ≠ bd /\ IsWb (mask W N) x wv /\ WbGood d x) := hd ⟨17, .data⟩ (by simp) rfl
     have HS17 := hI hs17
     clear hs17
     rw [h17] at i17
     clear hd
     have ho0 := owns_chg HOW.out HW.out.2 (fun q hq hm => by simp only [List.mem_singleton] at hm; have := (HOW.out.lt q hq).1; have := HBW.out; omega)
     refine gives_append elemWb _ _ (bw + 1) _ l.length _ i0 g 1 1 wv.cells i17 rfl (by simp [WbV.cells, Value.oneCell']) (by omega) (by omega) (by omega) ho0 (fun j hj => by rw [blk_cell HS17.out.1]; simp) (by have := HW.out.2.size; have := HSZ.out; omega) ?_
     intro g2 cap w2 ho2 hg2 hw2 hlt2
     have hcg : Chg (rowOf (.slice va l.length vc)) W w2 := grown_chg hg2
     have hcb : Chg (bd :: rowOf (.slice va l.length vc)) W w2 := hcg.weak (fun y hy => List.mem_cons_of_mem _ hy)
     have hbd2 : bd ∉ rowOf (.slice va l.length vc) := fun hm => by have := (HOW.out.lt bd (mem_rowOf.1 hm)).1; have := HBW.out; omega
     have hkeep : Sub (mask W N) (mask w2 (bd :: rowOf (.slice (some ⟨g2, 0, none⟩) (l.length + 1) cap) ++ M)) := HKP.out W w2 _ _ HW.out.2 hcg hw2
     exact ⟨hcb, ⟨HW.out.1.chg hcg hbd2 (fun q hq => by have := (HOW.out.lt q (mem_rowOf.1 hq)).1; have := HB0.out; omega), (HW.out.2.weak (fun y hy => by simp at hy; simp [hy])).then hcb, fun h => absurd (by simp) h⟩, x, wv, _, rfl, ho2, ((HWR.out W HW.out.2).mono hkeep).snoc (HS17.out.2.2.1.mono hkeep), HS17.out.2.2.2⟩
    intro L vs W hLm hW hR
    rw [if_neg (by decide +kernel)]
    obtain ⟨x, wv, v2, h18, hs18⟩ : ∃ (x : Wb) (wv : WbV) (v2 : Value), vs 18 = v2 /\ (W.ownsRow (bw + 1) 121 8 v2 (l.length + 1) (ws.flatMap WbV.cells ++ wv.cells) /\ WbsR (mask W (bd :: rowOf v2 ++ M)) (l ++ [x]) (ws ++ [wv]) /\ WbGood d x) := hR 18 (by simp) (by omega)
    have HS18 := hI hs18
    clear hs18
    refine wpOp_lastG rfl ?_
    change wpList _ _ _ [⟨some 9, .assign (.tmp 39), _, _, _, none⟩] _ _
    simp only [acts, dstAt, List.range, List.range.loop, List.foldl_cons, List.foldl_nil, h18]
    go_simp
    have hW2 : DeckAt w0 W bd /\ Chg (bd :: rowOf (.slice va l.length vc)) wr W := ⟨hW.1, hW.2.1⟩
    clear hR hW hLm h18
    have HW2 := hI hW2
    obtain ⟨a2, c2, hv2⟩ := owns_formG HS18.out.1
    subst hv2
    obtain ⟨xn, xc, xu⟩ := x
    have HG := hI HS18.out.2.2
    have HC2 := hI (show Chg [bd] w W from HCG.out.trans hW2.2 (fun y hy => by
     rcases List.mem_cons.1 hy with h | h
     ·exact Or.inl (by simp [h])
     have := (HOW.out.lt y (mem_rowOf.1 h)).1
     have := HBE.out
     exact Or.inr (by omega)))
    have HBX2 := hI (hW2.2.blk HBX.out (fun hy => by
     rcases List.mem_cons.1 hy with h | h
     ·have := HBW.out; omega
     have := (HOW.out.lt bw (mem_rowOf.1 h)).1; omega))
    clear hW2
    go_wp2_with fail
    go_roundw
    case rel => exact ⟨l ++ [.mk xn xc xu], ws ++ [wv], q - 1, by go_num, by simp; omega, by omega, by have := HS18.out.1; simpa using this, HS18.out.2.1, wbOk_snoc l xn xc xu HWO.out HG.out.1 HG.out.2.1 HG.out.2.2.1 HG.out.2.2.2.1 HG.out.2.2.2.2.1, by
     have h1 := HWN.out
     have h2 : wbN xu <= bndB d := HG.out.2.2.2.2.2
     rw [wbN_snoc, List.length_append, List.length_singleton, Nat.add_mul, Nat.one_mul]
     omega, HW2.out.1, HC2.out, HBX2.out⟩
    case measure => simp [intOf]; omega
   have t14 : decide (0 < q) = false := decide_eq_false hq
   obtain ⟨a', c', hv, h1, h2, h3⟩ := wbs_owns (M := M) HOW.out (fun k hk hm => by have := (HOW.out.lt k hk).1; have := HM.out k hm; omega) (HWL.out.mono (mask_less _ (fun y hy => by simp [hy])))
   have HV := hI hv
   have H3 := hI h3
   have H2 := hI h2
   clear hv h3 h2
   go_wp2_with fail
   go_ret
   rw [HV.out]
   exact ⟨l, a', _, c', rfl, rfl, h1, H2.out, H3.out, HWO.out, Nat.le_trans HWN.out (by simp only [bndB]; exact Nat.mul_le_mul_right _ (by omega)), HDK.out, HCG.out⟩
end Go.Proofs.YtpkljcgihobaiaaGreatDoor
