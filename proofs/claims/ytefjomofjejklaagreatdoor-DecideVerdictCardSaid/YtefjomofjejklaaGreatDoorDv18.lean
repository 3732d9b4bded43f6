/-
  Texts of the claim, joined: CClas, Chkd, RApp, RSom.
-/
import Derived.Test.YtefjomofjejklaaGreatDoorDv16
import Derived.Test.YtefjomofjejklaaGreatDoorDv17
namespace Go.Proofs.YtefjomofjejklaaGreatDoor
set_option maxRecDepth 100000
set_option maxHeartbeats 32000000
open Go.RowKit Go.Maps
mutual
theorem okTree_bare : (e : Ex) -> okTree e -> bareE e = true
 | .mk op name words lo hi args, h => by
  rw [okTree] at h
  obtain ⟨hn, ha⟩ := h
  rw [bareE, okTrees_bare args ha, Bool.and_true]
  unfold okNode at hn
  simp only [Ex.op, Ex.args, Ex.name, Ex.words, Ex.lo, Ex.hi] at hn
  by_cases h3 : op = 3
  ·have : args = [] := by
    rcases hn with ⟨h, -⟩ | ⟨h, -⟩ | ⟨-, -, -, -, -, h⟩ | ⟨h, -⟩ | ⟨h, -⟩ | ⟨h, -⟩ | ⟨h, -⟩
    ·omega
    ·omega
    ·exact h
    ·omega
    ·omega
    ·omega
    omega
   simp [this]
  simp [h3]
theorem okTrees_bare : (l : List Ex) -> okTrees l -> bareL l = true
 | [], _ => by rw [bareL]
 | e :: r, h => by
  rw [okTrees] at h
  rw [bareL, okTree_bare e h.1, okTrees_bare r h.2]; rfl
end
theorem ref_bare {e : Ex} (h : refExprB e = true) : bareE e = true := okTree_bare e (ref_okTree h)
theorem claLarge_conds {l : List Cla} {i : Nat} (hi : i < l.length) : claLarge l i = if (condsC l[i]).any (fun x => decide (2000 < expanded l x)) = true then 4 else 0 := by
 unfold claLarge
 rw [getD_cla hi, backsLarge_conds]
 simp only [condsC, List.any_cons, Bool.or_eq_true, decide_eq_true_eq]
theorem defs_own {s : List Attr} {l : List Cla} (h : ∀ j, j < l.length -> claErr s l j = 0) {i : Nat} (hi : i < l.length) (hk : l[i].kind = 1) : defAt l l[i].name = some i := by
 have h0 := h i hi
 rw [<- ccErr_eq s l hi] at h0
 unfold ccErr at h0
 have hnone : findAt (l.take i) l[i].name = none := by
  cases hf : findAt (l.take i) l[i].name with
  | none => rfl
  | some q =>
   rw [hf] at h0
   split at h0
   ·cases h0
   simp at h0
 unfold defAt
 rw [List.findIdx?_eq_some_iff_getElem]
 refine ⟨hi, by simp [hk], fun j hj => ?_⟩
 unfold findAt at hnone
 rw [List.findIdx?_eq_none_iff] at hnone
 have := hnone l[j] (List.mem_iff_getElem.2 ⟨j, by simp; omega, by simp⟩)
 simp only [decide_eq_false_iff_not] at this
 simp [this]
def cclas10R (sa : OA) (sn sc bm b off n c k : Nat) (v : ClV) (E : Int) : Nat -> Value -> World -> Prop
 | 0, u, _ => u = .agg #[.slice sa sn sc]
 | 1, u, _ => u = .map (some bm)
 | 2, u, _ => u = .slice (some ⟨b, off, none⟩) n c
 | 3, u, _ => u = .int .i64 ((k : Nat) : Int)
 | 4, u, _ => u = .slice (some ⟨b, off, none⟩) k c
 | 5, u, _ => u = .agg #[.int .i64 v.kind, .string v.name, .int .i64 v.x.op, .string v.x.name, .slice v.x.aw v.x.nw v.x.cw, .int .i64 v.x.lo, .int .i64 v.x.hi, .slice v.x.aa v.x.na v.x.ca, .slice v.au v.nu v.cu, .int .i64 v.amount]
 | 6, u, _ => u = .int .i64 E
 | _, u, _ => u = .int .i64 E
def CcL2 (l : List Cla) (n : Nat) (w3 : World) (t : Value) (wr : World) : Prop := ∃ k : Nat, t = .int .i64 ((k : Nat) : Int) /\ k <= n /\ (∀ j, j < k -> claLarge l j = 0) /\ Ext w3 wr
theorem cClauses_calls (s : List Attr) (l : List Cla) (sv : Value) (a : OA) (n c : Nat) (w : World) (hs : IsSchema w s sv) (hf : ∀ x ∈ s, x.fits) (hsl : s.length <= 1000000000000000) (hl : IsClas w l a n c) (hn : n <= 1000000000000000) (hok : ∀ x ∈ l, x.fit) (ho : HasOps w) :
  Calls Tryz.prog 56 #[sv, .slice a n c] w (GivesE (clsV (clausesErr s l)) w) := by
 obtain ⟨sa, sn, sc, rfl, hsn⟩ := hs.slice
 have HL := hI hl
 have HN := hI hl.len
 have HOK := hI hok
 have hnc : n <= c := by obtain ⟨vs, h1, _⟩ := hl; exact h1.2.1
 have HVA := hI (fun (W : World) (hW : Ext w W) => sValidate_calls s (.agg #[.slice sa sn sc]) W (hs.ext hW) hf hsl)
 have HCC := hI (fun (hz : schemaErr s = 0) (bm nm : Nat) (ba : OA) (bn bc i : Nat) (hi : i < l.length) (v : ClV) (W : World) (hW : Ext w W) (hd : DefsAt W l bm nm) (hb : IsClas W (l.take i) ba bn bc) (hbn : bn <= 1000000000000000) (hc : IsCla W l[i] v) => cclause_calls s hz l (l.take i) hf hsl bm nm ba bn bc l[i] v (.agg #[.slice sa sn sc]) W (hok _ (List.getElem_mem hi)) (ho.ext hW) (hs.ext hW) hd hb hbn hc)
 obtain ⟨R, hR⟩ : ∃ R, R = clausesErr s l := ⟨_, rfl⟩
 rw [<- hR]
 have HR := hI hR
 obtain ⟨wa, hwa⟩ : ∃ wa, wa = w.alloc (.cells #[.slice sa sn sc] 24) := ⟨_, rfl⟩
 have hxa : Ext w wa := by rw [hwa]; exact (Ext.refl _).alloc _
 have hb : wa.heap[w.heap.size]? = some (.cells #[.slice sa sn sc] 24 (0, 0)) := by rw [hwa]; exact alloc_new w _
 have HXA := hI hxa
 have HBA := hI hb
 obtain ⟨d0, df⟩ := blk1 hb
 have hlta := blk_lt hb
 clear hs hl hf hok hR hsn hxa hb ho
 go_enter Tryz.func56, Tryz.ntmps56
 go_upto_region 1 with fail
 rw [<- hwa]
 clear hwa
 go_wp2_with fail
 refine (HVA.out wa HXA.out).mono ?_
 rintro r w1 ⟨rfl, hx1⟩
 have HX1 := hI (HXA.out.trans hx1)
 have HB1 := hI (hx1.blk HBA.out)
 clear hx1 d0 df HVA hlta
 by_cases hse : schemaErr s = 0
 case neg =>
  have tz : (schemaErr s != 0) = true := by simp [hse]
  have HQ := hI (HR.out.trans (cls_bad hse))
  go_wp2_with fail
  go_ret2
  exact givesE_cls HQ.out HX1.out
 have tz : (schemaErr s != 0) = false := by simp [hse]
 have HSE := hI hse
 clear hse
 by_cases hm : 100 < n
 ·have tm : decide ((100 : Int) < (n : Int)) = true := decide_eq_true (by omega)
  have HQ := hI (HR.out.trans (cls_many HSE.out (by have := HN.out; omega)))
  go_wp2_with fail
  go_ret2
  exact givesE_cls HQ.out HX1.out
 have tm : decide ((100 : Int) < (n : Int)) = false := decide_eq_false (by omega)
 have HM := hI (show ¬ 100 < l.length by have := HN.out; omega)
 go_wp2_with fail
 refine (definitions_calls l a n c w1 (HL.out.ext HX1.out) (by omega) fun x hx => (HOK.out x hx).1).mono ?_
 rintro r w2 ⟨bm, rfl, hd2, hx2⟩
 have HD2 := hI hd2
 have HX2 := hI (HX1.out.trans hx2)
 have HB2 := hI (hx2.blk HB1.out)
 clear hd2 hx2
 go_wp2_with fail
 go_loopw [30] (fun t wr => ∃ k : Nat, t = .int .i64 ((k : Nat) : Int) /\ k <= n /\ (∀ j, j < k -> claErr s l j = 0) /\ Ext w2 wr) (fun t _ => n - (intOf t).toNat)
 case atStart => exact ⟨0, rfl, by omega, fun j h => by omega, Ext.refl _⟩
 case round =>
  obtain ⟨k, rfl, hk, hno, hxr⟩ := hrel
  have HNO := hI hno
  have HXR := hI hxr
  clear hno hxr
  by_cases hkn : k < n
  ·have hkl : k < l.length := by have := HN.out; omega
   have t1 : decide ((k : Int) < (n : Int)) = true := decide_eq_true (by omega)
   obtain ⟨b, off, v, rfl, hcla, hrow⟩ := (HL.out.ext (HX2.out.trans HXR.out)).at hkl
   obtain ⟨c0, c1, c2, c3, c4, c5, c6, c7, c8, c9⟩ := hrow.ten
   have ti0 : (0 : Int) <= (k : Int) := by omega
   have ti1 : (k : Int) <= (n : Int) := by omega
   have hkc : k <= c := by omega
   have HCE := hI (ccErr_eq s l hkl)
   have HHIT := hI (fun (e : Int) (h : claErr s l k = e) (h0 : e ≠ 0) => HR.out.trans (by rw [cls_hit HSE.out HM.out hkl HNO.out (by rw [h]; exact h0), h]))
   obtain ⟨y, hy⟩ : ∃ y, y = wr.heap.size := ⟨_, rfl⟩
   obtain ⟨wx, hwx⟩ : ∃ wx, wx = wr.alloc (.cells #[.int .i64 v.kind, .string v.name, .int .i64 v.x.op, .string v.x.name, .slice v.x.aw v.x.nw v.x.cw, .int .i64 v.x.lo, .int .i64 v.x.hi, .slice v.x.aa v.x.na v.x.ca, .slice v.au v.nu v.cu, .int .i64 v.amount] 48) := ⟨_, rfl⟩
   have hxx : Ext wr wx := by rw [hwx]; exact (Ext.refl _).alloc _
   have hby : wx.heap[y]? = some (.cells #[.int .i64 v.kind, .string v.name, .int .i64 v.x.op, .string v.x.name, .slice v.x.aw v.x.nw v.x.cw, .int .i64 v.x.lo, .int .i64 v.x.hi, .slice v.x.aa v.x.na v.x.ca, .slice v.au v.nu v.cu, .int .i64 v.amount] 48 (0, 0)) := by rw [hwx, hy]; exact alloc_new wr _
   have HXX := hI (HXR.out.trans hxx)
   have HCF := hI (fun (W : World) (hW : Ext wx W) => HCC.out HSE.out bm n (some ⟨b, off, none⟩) k c k hkl v W ((HX2.out.trans HXX.out).trans hW) (HD2.out.ext (HXX.out.trans hW)) ((HL.out.ext ((HX2.out.trans HXX.out).trans hW)).take (by omega)) (by omega) (hcla.mono (hxx.trans hW).sub))
   rw [HCE.out] at HCF
   obtain ⟨E, hE⟩ : ∃ E, E = claErr s l k := ⟨_, rfl⟩
   rw [<- hE] at HCF
   have HE := hI hE
   clear hcla hrow hE HCE
   go_upto_region 10 with fail
   rw [<- hwx, <- hy]
   clear hwx hy c0 c1 c2 c3 c4 c5 c6 c7 c8 c9
   obtain ⟨d0, df⟩ := blk1 ((HXX.out).blk HB2.out)
   obtain ⟨b0, b1, b2, b3, b4, b5, b6, b7, b8, b9, bf⟩ := blk10r hby
   clear hxx hby
   refine wp_region_grow (m := 8) [7] (GrG wx) GrE (GrP (cclas10R sa sn sc bm b off n c k v E)) (by kernel_rfl) (by kernel_rfl) ((Ext.refl wx).drew) ?_ ?_ ?_
   ·intro i k v W W' hi hk hne hout h hE
    have hE : Ext W W' := hE
    have hi' := ltc8 hi
    clear hi hk hne hout
    rcases hi' with rfl | rfl | rfl | rfl | rfl | rfl | rfl | rfl
    ·exact h
    ·exact h
    ·exact h
    ·exact h
    ·exact h
    ·exact h
    ·exact h
    exact h
   ·intro q op hq ho vs W hW hd ρ hρ
    have hq' := ltc8 hq
    clear hq
    have o2 : ρ (.tmp 2) = .pointer (some ⟨w.heap.size, 0, none⟩) := hρ.out 2 rfl
    have o7 : ρ (.tmp 7) = .map (some bm) := hρ.out 7 rfl
    have o1 : ρ (.tmp 1) = .slice (some ⟨b, off, none⟩) n c := hρ.out 1 rfl
    have o8 : ρ (.tmp 8) = .int .i64 ((k : Nat) : Int) := hρ.out 8 rfl
    have i2 := hρ.i 2 37
    have i3 := hρ.i 3 38
    have o9 : ρ (.tmp 9) = .pointer (some ⟨y, 0, none⟩) := hρ.out 9 rfl
    have i0 := hρ.i 0 35
    have i1 := hρ.i 1 36
    have i4 := hρ.i 4 39
    have i5 := hρ.i 5 40
    have i6 := hρ.i 6 41
    have hc := hρ.const
    have hfn := hρ.func
    clear hρ
    have HW := hI (show Ext wx W from hW)
    rcases hq' with rfl | rfl | rfl | rfl | rfl | rfl | rfl | rfl
    ·cases ho
     clear hd
     have g0 := HW.out.cell d0
     unfold GivesOp
     go_simp
     exact ⟨Ext.refl W, rfl⟩
    ·cases ho
     clear hd
     unfold GivesOp
     go_simp
     exact ⟨Ext.refl W, rfl⟩
    ·cases ho
     clear hd
     unfold GivesOp
     go_simp
     exact ⟨Ext.refl W, rfl⟩
    ·cases ho
     clear hd
     unfold GivesOp
     go_simp
     exact ⟨Ext.refl W, rfl⟩
    ·cases ho
     have h2 : vs 2 = _ := hd ⟨2, .data⟩ (by simp) rfl
     rw [h2] at i2
     have h3 : vs 3 = _ := hd ⟨3, .data⟩ (by simp) rfl
     rw [h3] at i3
     clear hd
     unfold GivesOp
     go_simp
     exact ⟨Ext.refl W, rfl⟩
    ·cases ho
     clear hd
     have g0 := HW.out.cell b0
     have g1 := HW.out.cell b1
     have g2 := HW.out.cell b2
     have g3 := HW.out.cell b3
     have g4 := HW.out.cell b4
     have g5 := HW.out.cell b5
     have g6 := HW.out.cell b6
     have g7 := HW.out.cell b7
     have g8 := HW.out.cell b8
     have g9 := HW.out.cell b9
     unfold GivesOp
     go_simp
     exact ⟨Ext.refl W, rfl⟩
    ·cases ho
     have h0 : vs 0 = _ := hd ⟨0, .data⟩ (by simp) rfl
     rw [h0] at i0
     have h1 : vs 1 = _ := hd ⟨1, .data⟩ (by simp) rfl
     rw [h1] at i1
     have h4 : vs 4 = _ := hd ⟨4, .data⟩ (by simp) rfl
     rw [h4] at i4
     have h5 : vs 5 = _ := hd ⟨5, .data⟩ (by simp) rfl
     rw [h5] at i5
     clear hd
     unfold GivesOp
     go_simp
     refine (HCF.out W HW.out).mono ?_
     rintro r5 w5 ⟨rfl, hx5⟩
     exact ⟨_, rfl, hx5, HW.out.trans hx5, rfl⟩
    cases ho
    have h6 : vs 6 = _ := hd ⟨6, .data⟩ (by simp) rfl
    rw [h6] at i6
    clear hd
    unfold GivesOp
    go_simp
    exact ⟨Ext.refl W, rfl⟩
   intro vs W hW hR
   rw [if_pos (by decide +kernel)]
   have h7 : vs 7 = .int .i64 E := hR 7 (by simp) (by omega)
   simp only [acts, dstAt, List.range, List.range.loop, List.foldl_cons, List.foldl_nil, h7]
   go_simp
   have hW2 : Ext wx W := hW
   clear hR hW h7
   have HX10 := hI (HXX.out.trans hW2)
   clear hW2 d0 df b0 b1 b2 b3 b4 b5 b6 b7 b8 b9 bf HCF
   by_cases hz : E = 0
   ·have tz0 : (E != 0) = false := by simp [hz]
    have HZ := hI (HE.out.symm.trans hz)
    clear hz
    go_wp2_with fail
    go_roundw
    case rel =>
     refine ⟨k + 1, by go_num, by omega, fun j hj => ?_, HX10.out⟩
     by_cases e0 : j = k
     ·subst e0; exact HZ.out
     exact HNO.out j (by omega)
    case measure => simp [intOf]; omega
   have tz0 : (E != 0) = true := by simp [hz]
   have HQ := hI (HHIT.out E HE.out.symm hz)
   clear hz
   go_wp2_with fail
   go_ret2
   exact givesE_cls HQ.out (HX2.out.trans HX10.out)
  have t1 : decide ((k : Int) < (n : Int)) = false := decide_eq_false (by omega)
  have HNA := hI (show ∀ j, j < l.length -> claErr s l j = 0 from fun j hj => HNO.out j (by have := HN.out; omega))
  have HSZ := hI (show ∀ x ∈ l, x.name.size <= 1000000000000000 /\ x.cond.size <= 100000 /\ x.cond.fits /\ (∀ y ∈ condsC x, refExprB y = true) /\ wbN x.unl <= 40 by
   intro x hx
   obtain ⟨j, hj, rfl⟩ := List.mem_iff_getElem.1 hx
   have hv := claErr_valid (HNA.out j hj) hj
   have hf := HOK.out _ hx
   exact ⟨hf.1, refExprB_size (clauseB_cond hv), hf.2.1, (clause_refs hv).1, (clause_refs hv).2⟩)
  have HXW := hI (HX2.out.trans HXR.out)
  clear HNO
  go_wp2_with fail
  refine (order_calls (l.map Cla.cl) a n c wr (HL.out.ext HXW.out).cls (by omega) (by
   intro x hx
   obtain ⟨c', hc', rfl⟩ := List.mem_map.1 hx
   have := HSZ.out c' hc'
   exact ⟨this.2.1, this.2.2.1, this.1⟩)).mono ?_
  rw [show (l.map Cla.cl).map Cl.dfn = l.map Cla.dfn by rw [List.map_map]; rfl]
  rintro r w3 ⟨hx3, ⟨o, oa, oc, ht, rfl, hoi⟩ | ⟨o, q1, q2, rfl⟩⟩
  ·have HT := hI ht
   have HOI := hI hoi
   have HX3 := hI (HXW.out.trans hx3)
   have HSO := hI (show Sorts (l.map Cla.dfn) from ⟨o, ht⟩)
   have hol : o.length <= 1000 := by have h1 := ht.len; have := HN.out; simp at h1; omega
   have HSE2 := hI (fun (x : Ex) (hx : bareE x = true) => sizes_exp ht (fun i hi => by
    have hil : i < l.length := by simpa using ht.lt hi
    rw [getD_cla hil]
    exact defs_own HNA.out hil (by have := (ht.all i).1 hi; rw [isDef_dfn hil] at this; simpa using this)) (fun i hi => by
    have hil : i < l.length := by simpa using ht.lt hi
    rw [getD_cla hil]
    exact ref_bare ((HSZ.out _ (List.getElem_mem hil)).2.2.2.1 _ (by simp [condsC]))) x hx)
   clear ht hoi hx3
   go_wp2_with fail
   refine (sizes_calls l a n c o oa oc w3 (HL.out.ext HX3.out) (by omega) HOI.out (by omega) (fun i hi => by simpa using HT.out.lt hi) (fun x hx => by have := HSZ.out x hx; exact ⟨this.1, by omega, this.2.2.1⟩)).mono ?_
   rintro r w4 ⟨bs, rfl, hm4, hx4⟩
   have HM4 := hI hm4
   have HX4 := hI (HX3.out.trans hx4)
   clear hm4 hx4
   go_wp2_with fail
   go_loopw [60] (CcL2 l n w4) (fun t _ => n - (intOf t).toNat)
   case atStart => exact ⟨0, rfl, by omega, fun j h => by omega, Ext.refl _⟩
   case round =>
    obtain ⟨k2, rfl, hk2, hno, hxr⟩ := hrel
    obtain ⟨wo, rfl⟩ : ∃ wo : World, wo = wr := ⟨_, rfl⟩
    have HNO := hI hno
    have HXR2 := hI hxr
    clear hno hxr
    by_cases hkn2 : k2 < n
    ·have hkl : k2 < l.length := by have := HN.out; omega
     have t2 : decide ((k2 : Int) < (n : Int)) = true := decide_eq_true (by omega)
     obtain ⟨b, off, v, rfl, hcla, hrow⟩ := (HL.out.ext (HX4.out.trans HXR2.out)).at hkl
     obtain ⟨c0, c1, c2, c3, c4, c5, c6, c7, c8, c9⟩ := hrow.ten
     have HFT := hI (condsC_fit (HOK.out _ (List.getElem_mem hkl)))
     have HRF := hI (HSZ.out _ (List.getElem_mem hkl)).2.2.2.1
     have hwb := (HSZ.out _ (List.getElem_mem hkl)).2.2.2.2
     have HLG := hI (claLarge_conds hkl)
     have HHIT := hI (fun (h : claLarge l k2 = 4) => HR.out.trans (cls_large HSE.out HM.out HNA.out HSO.out hkl HNO.out h))
     have HCN := hI (fun (W : World) (hW : Ext wo W) => conditions_calls l[k2] v W (hcla.mono hW.sub) (by omega))
     have HCL := hI (condsC_len l[k2])
     clear hcla hrow
     go_wp2_with fail
     refine (HCN.out _ ((Ext.refl wo).alloc _)).mono ?_
     rintro r w6 ⟨ea, en, ek, rfl, hen, henk, hed, hx6⟩
     have HX6 := hI ((HXR2.out.alloc _).trans hx6)
     have HED := hI hed
     have HEN := hI hen
     have hen2 : en <= 41 := by have := HCL.out; omega
     clear hx6 hed hen c0 c1 c2 c3 c4 c5 c6 c7 c8 c9 HCN
     go_wp2_with fail
     go_loopw [68] (fun t wr => ∃ q : Nat, t = .int .i64 ((q : Nat) : Int) /\ q <= en /\ (∀ j (h : j < (condsC l[k2]).length), j < q -> ¬ 2000 < expanded l (condsC l[k2])[j]) /\ Ext w6 wr) (fun t _ => en - (intOf t).toNat)
     case atStart => exact ⟨0, rfl, by omega, fun j _ h => by omega, Ext.refl _⟩
     case round =>
      obtain ⟨q, rfl, hq, hall, hxq⟩ := hrel
      have HALL := hI hall
      have HXQ := hI hxq
      clear hall hxq
      by_cases hqn : q < en
      ·have hql : q < (condsC l[k2]).length := by have := HEN.out; omega
       have t3 : decide ((q : Int) < (en : Int)) = true := decide_eq_true (by omega)
       obtain ⟨b', off', rfl, aw1, nw1, cw1, aa1, na1, ca1, h0, h1, h2, h3, h4, h5, h6⟩ := ExsD.at (condsC l[k2]) _ (ExsD.ext HXQ.out (condsC l[k2]) _ HED.out) q hql
       have hmem := List.getElem_mem hql
       have hxs := refExprB_size (HRF.out _ hmem)
       have HCX := hI (fun (W : World) (hW : Ext wr W) => cexp_calls (sizesF l o) (sizesF_le l o) bs o.length 1000000000000000 (condsC l[k2])[q] _ W (by omega) (by omega) (HFT.out _ hmem).1 (HM4.out.ext ((HX6.out.trans HXQ.out).trans hW)) (h6.ext hW))
       have hblt := block_lt h0
       simp only at hblt
       rw [HSE2.out _ (ref_bare (HRF.out _ hmem))] at HCX
       unfold exV at HCX
       obtain ⟨E, hE⟩ : ∃ E, E = expanded l (condsC l[k2])[q] := ⟨_, rfl⟩
       rw [<- hE] at HCX
       have hel : E <= 2001 := by rw [hE]; exact expF_le l _ _
       have HE := hI hE
       clear h6 hE
       go_wp2_with fail
       refine (HCX.out _ ((Ext.refl wr).alloc _)).mono ?_
       rintro r w7 ⟨rfl, hx7⟩
       have HX7 := hI ((HXQ.out.alloc _).trans hx7)
       clear hx7 h0 h1 h2 h3 h4 h5 HCX
       by_cases hlg : 2000 < E
       ·have t4 : decide ((2000 : Int) < (E : Int)) = true := decide_eq_true (by omega)
        have HQ := hI (HHIT.out (by
         rw [HLG.out, if_pos]
         rw [List.any_eq_true]
         exact ⟨_, hmem, by rw [<- HE.out]; simpa using hlg⟩))
        clear hmem
        go_wp2_with fail
        go_ret2
        exact givesE_cls HQ.out (HX4.out.trans (HX6.out.trans HX7.out))
       have t4 : decide ((2000 : Int) < (E : Int)) = false := decide_eq_false (by omega)
       have HNL := hI (show ¬ 2000 < expanded l (condsC l[k2])[q] by rw [<- HE.out]; exact hlg)
       clear hmem hlg
       go_wp2_with fail
       go_roundw
       case rel =>
        refine ⟨q + 1, by go_num, by omega, fun j hj hjk => ?_, HX7.out⟩
        by_cases e0 : j = q
        ·subst e0; exact HNL.out
        exact HALL.out j hj (by omega)
       case measure => simp [intOf]; omega
      have t3 : decide ((q : Int) < (en : Int)) = false := decide_eq_false (by omega)
      have HZ := hI (show claLarge l k2 = 0 by
       rw [HLG.out, if_neg]
       rw [Bool.not_eq_true, List.any_eq_false]
       intro x hx
       obtain ⟨j, hj, rfl⟩ := List.mem_iff_getElem.1 hx
       simpa using HALL.out j hj (by have := HEN.out; omega))
      go_wp2_with fail
      go_roundw
      case rel =>
       refine ⟨k2 + 1, by go_num, by omega, fun j hj => ?_, HX6.out.trans HXQ.out⟩
       by_cases e0 : j = k2
       ·subst e0; exact HZ.out
       exact HNO.out j (by omega)
      case measure => simp [intOf]; omega
    have t2 : decide ((k2 : Int) < (n : Int)) = false := decide_eq_false (by omega)
    have HQ := hI (HR.out.trans (cls_good HSE.out HM.out HNA.out HSO.out fun j hj => HNO.out j (by have := HN.out; omega)))
    go_wp2_with fail
    go_ret2
    exact givesE_cls HQ.out (HX4.out.trans HXR2.out)
  have HQ := hI (HR.out.trans (cls_cycle HSE.out HM.out HNA.out (q1.none q2)))
  have HX3 := hI (HXW.out.trans hx3)
  clear hx3 q1 q2
  go_wp2_with fail
  go_ret2
  exact givesE_cls HQ.out HX3.out
def put3 (w : World) (B : Nat) (v0 v1 v2 : Value) : World := ((w.setCell ⟨B, 0, none⟩ v0).setCell ⟨B, 1, none⟩ v1).setCell ⟨B, 2, none⟩ v2
theorem put3_blk {w : World} {B : Nat} {u0 u1 u2 : Value} {t : TypeId} (h : w.heap[B]? = some (.cells #[u0, u1, u2] t (0, 0))) (v0 v1 v2 : Value) : (put3 w B v0 v1 v2).heap[B]? = some (.cells #[v0, v1, v2] t (0, 0)) := by
 unfold put3
 have h0 := heap_setCell_same w B 0 _ _ v0 h
 have h1 := heap_setCell_same _ B 1 _ _ v1 h0
 have h2 := heap_setCell_same _ B 2 _ _ v2 h1
 rw [h2]; rfl
theorem put3_chg (w : World) (B : Nat) (v0 v1 v2 : Value) {N : ZN} (h : B ∈ N) : Chg N w (put3 w B v0 v1 v2) := by
 unfold put3
 exact (((Chg.refl _ _).setCell (Or.inl h) _).setCell (Or.inl h) _).setCell (Or.inl h) _
def lossZero : Value := .agg #[.slice none 0 0, .map none, .slice none 0 0]
def CheckedQ (s : List Attr) (l : List Cla) (e : Ex) (f : ZI) (n : Nat) (w : World) (r : Ending) (w' : World) : Prop := Ext w w' /\ ((evalErr s l e f ≠ 0 /\ r = .returned (.tuple #[lossZero, .int .i64 (evalErr s l e f)])) \/ (evalErr s l e f = 0 /\ ∃ lv : LossV, r = .returned (.tuple #[lv.val, .int .i64 0]) /\ IsLoss w' s l f lv n))
theorem Chk.fresh {s : List Attr} {l : List Cla} (h : Chk s l) {k : Nat} (hk : k < l.length) : defAt (l.take k) l[k].name = none := by
 cases hd : defAt (l.take k) l[k].name with
 | none => rfl
 | some d =>
  obtain ⟨h1, _, h3⟩ := defAt_atK hd
  have hdk : d < k := by simp at h1; omega
  have := h.uniq k d hk hdk
  rw [getD_take hdk] at h3
  rw [h3, getD_clK hk] at this
  exact absurd rfl this
theorem checked_calls (s : List Attr) (l : List Cla) (e : Ex) (f : ZI) (ev sv : Value) (a : OA) (n c : Nat) (fa : OA) (fn fc : Nat) (w : World) (hs : IsSchema w s sv) (hf : ∀ x ∈ s, x.fits) (hsl : s.length <= 1000000000000000) (hl : IsClas w l a n c) (hn : n <= 1000000) (hok : ∀ x ∈ l, x.fit) (he : IsEx w e ev) (hfew : e.few) (hfit : e.fits) (hi : IsIntF w f fa fn) (hfn : fn <= 1000000000000000) (ho : HasOps w) :
  Calls Tryz.prog 115 #[sv, .slice a n c, ev, .slice fa fn fc] w (CheckedQ s l e f n w) := by
 obtain ⟨sa, sn, sc, rfl, hsn⟩ := hs.slice
 have HCL := hI (fun W (hW : Ext w W) => cClauses_calls s l _ a n c W (hs.ext hW) hf hsl (hl.ext hW) (by omega) hok (ho.ext hW))
 have HEX := hI (fun W (hW : Ext w W) => checkExpr_calls s l a n c e ev _ W hf hsl (hl.ext hW) hn (fun x hx => (hok x hx).1) hfew hfit (ho.ext hW) (hs.ext hW) (he.ext hW))
 have HXP := hI (fun (h1 : (clausesErr s l).2 = 0) (h2 : exprErr s l e = 0) W (hW : Ext w W) => cExpanded_calls l a n c e ev W (hl.ext hW) (he.ext hW) ⟨by have := ref_size (exprErr_ref h2); omega, hfit, ref_bare (exprErr_ref h2)⟩ (by rw [hl.len]; have := (chk_of h1).len; omega) (fun x hx => ⟨(hok x hx).1, by have := (chk_of h1).size x hx; omega, (hok x hx).2.1, ref_bare ((chk_of h1).good x hx).2.2.1⟩))
 have HFC := hI (fun W (hW : Ext w W) => sValid_calls s _ f fa fn fc W (hs.ext hW) hf hsl (hi.ext hW) hfn)
 have HCK := hI (fun (h1 : (clausesErr s l).2 = 0) => chk_of h1)
 have HL := hI hl
 have HS := hI hs
 have HI := hI hi
 have HSZ := hI (fun x hx => (hok x hx).1)
 have HN := hI hl.len
 obtain ⟨aw, nw, cw, aa, na, ca, rfl, -⟩ := he.parts
 obtain ⟨R, hR⟩ : ∃ R, R = evalErr s l e f := ⟨_, rfl⟩
 unfold CheckedQ
 rw [<- hR]
 unfold evalErr at hR
 obtain ⟨⟨i0, E1⟩, hE1⟩ : ∃ E : Nat × Int, E = clausesErr s l := ⟨_, rfl⟩
 rw [<- hE1] at HCL hR
 have HXP1 := hI (fun (h1 : E1 = 0) => HXP.out (by rw [<- hE1]; exact h1))
 have HCK1 := hI (fun (h1 : E1 = 0) => HCK.out (by rw [<- hE1]; exact h1))
 clear HXP HCK
 obtain ⟨E2, hE2⟩ : ∃ E, E = exprErr s l e := ⟨_, rfl⟩
 rw [<- hE2] at HEX hR
 have HXP := hI (fun (h1 : E1 = 0) (h2 : E2 = 0) => HXP1.out h1 (by rw [<- hE2]; exact h2))
 clear HXP1
 obtain ⟨X, hX⟩ : ∃ X, X = expanded l e := ⟨_, rfl⟩
 rw [<- hX] at HXP hR
 obtain ⟨B, hB⟩ : ∃ B, B = factsB s f := ⟨_, rfl⟩
 rw [<- hB] at HFC hR
 have HR := hI hR
 clear hs hf hsl hl hok he hfew hfit hi hsn hR hE1 hE2 hX hB ho
 unfold exV at *
 obtain ⟨wa, hwa⟩ : ∃ wa, wa = ((w.alloc (.cells #[.slice sa sn sc] 24)).alloc (.cells #[.int .i64 e.op, .string e.name, .slice aw nw cw, .int .i64 e.lo, .int .i64 e.hi, .slice aa na ca] 45)).alloc (.cells #[.slice none 0 0, .map none, .slice none 0 0] 183) := ⟨_, rfl⟩
 have hxa : Ext w wa := by rw [hwa]; exact (((Ext.refl _).alloc _).alloc _).alloc _
 have hb0 : wa.heap[w.heap.size]? = some (.cells #[.slice sa sn sc] 24 (0, 0)) := by rw [hwa]; exact blk_alloc (blk_alloc (alloc_new w _))
 have hb1 : wa.heap[w.heap.size + 1]? = some (.cells #[.int .i64 e.op, .string e.name, .slice aw nw cw, .int .i64 e.lo, .int .i64 e.hi, .slice aa na ca] 45 (0, 0)) := by rw [hwa]; exact blk_alloc (alloc_atR (by simp))
 have hb2 : wa.heap[w.heap.size + 1 + 1]? = some (.cells #[.slice none 0 0, .map none, .slice none 0 0] 183 (0, 0)) := by rw [hwa]; exact alloc_atR (by simp)
 have HXA := hI hxa
 have HB0 := hI hb0
 have HB1 := hI hb1
 have HB2 := hI hb2
 obtain ⟨e0, ef⟩ := blk1 hb0
 clear hxa hb0 hb1 hb2
 unfold clsV at HCL
 go_enter Tryz.func115, Tryz.ntmps115
 go_upto_region 1 with fail
 rw [<- hwa]
 clear hwa
 go_wp2_with fail
 refine (HCL.out wa HXA.out).mono ?_
 rintro r w1 ⟨rfl, hx1⟩
 have HX1 := hI (HXA.out.trans hx1)
 have HB01 := hI (hx1.blk HB0.out)
 have HB11 := hI (hx1.blk HB1.out)
 have HB21 := hI (hx1.blk HB2.out)
 clear hx1 e0 ef HCL HB0 HB1 HB2
 by_cases h1 : E1 = 0
 case neg =>
  have t1 : (E1 != 0) = true := by simp [h1]
  have HQ := hI (show R = E1 by rw [HR.out, if_pos h1])
  have HNZ := hI h1
  clear h1
  obtain ⟨r0, r1, r2, rf⟩ := blk3 HB21.out
  go_wp2_with fail
  obtain ⟨wz, hwz⟩ : ∃ wz, wz = put3 w1 (w.heap.size + 1 + 1) (.slice none 0 0) (.map none) (.slice none 0 0) := ⟨_, rfl⟩
  have HZ := hI (show wz.heap[w.heap.size + 1 + 1]? = some (.cells #[.slice none 0 0, .map none, .slice none 0 0] 183 (0, 0)) by rw [hwz]; exact put3_blk HB21.out _ _ _)
  have HXZ := hI (show Ext w wz by rw [hwz]; exact (put3_chg w1 (w.heap.size + 1 + 1) (.slice none 0 0) (.map none) (.slice none 0 0) (N := [w.heap.size + 1 + 1]) (by simp)).ext HX1.out (fun y hy => by simp only [List.mem_singleton] at hy; omega))
  unfold put3 at hwz
  rw [<- hwz]
  clear hwz
  obtain ⟨z0, z1, z2, zf⟩ := blk3 HZ.out
  refine bodyPost_ret (v := .tuple #[lossZero, .int .i64 E1]) (by simp [results, Tryz.results115, go_sem, lossZero, z0, z1, z2]) rfl ?_
  exact ⟨HXZ.out, Or.inl ⟨by rw [HQ.out]; exact HNZ.out, by rw [HQ.out]⟩⟩
 have t1 : (E1 != 0) = false := by simp [h1]
 have HR2 := hI (show R = if E2 ≠ 0 then E2 else if 2000 < X then 4 else if B = false then 16 else 0 by rw [HR.out, if_neg (by simpa using h1)])
 have HXP1 := hI (HXP.out h1)
 have HCK := hI (HCK1.out h1)
 clear h1 HR HXP HCK1
 obtain ⟨e0, ef⟩ := blk1 HB01.out
 obtain ⟨f0, f1, f2, f3, f4, f5, ff⟩ := blk6 HB11.out
 go_wp2_with fail
 refine (HEX.out w1 HX1.out).mono ?_
 rintro r w2 ⟨rfl, hx2⟩
 have HX2 := hI (HX1.out.trans hx2)
 have HB02 := hI (hx2.blk HB01.out)
 have HB12 := hI (hx2.blk HB11.out)
 have HB22 := hI (hx2.blk HB21.out)
 clear hx2 e0 ef f0 f1 f2 f3 f4 f5 ff HEX
 by_cases h2 : E2 = 0
 case neg =>
  have t2 : (E2 != 0) = true := by simp [h2]
  have HQ := hI (show R = E2 by rw [HR2.out, if_pos h2])
  have HNZ := hI h2
  clear h2
  obtain ⟨r0, r1, r2, rf⟩ := blk3 HB22.out
  go_wp2_with fail
  obtain ⟨wz, hwz⟩ : ∃ wz, wz = put3 w2 (w.heap.size + 1 + 1) (.slice none 0 0) (.map none) (.slice none 0 0) := ⟨_, rfl⟩
  have HZ := hI (show wz.heap[w.heap.size + 1 + 1]? = some (.cells #[.slice none 0 0, .map none, .slice none 0 0] 183 (0, 0)) by rw [hwz]; exact put3_blk HB22.out _ _ _)
  have HXZ := hI (show Ext w wz by rw [hwz]; exact (put3_chg w2 (w.heap.size + 1 + 1) (.slice none 0 0) (.map none) (.slice none 0 0) (N := [w.heap.size + 1 + 1]) (by simp)).ext HX2.out (fun y hy => by simp only [List.mem_singleton] at hy; omega))
  unfold put3 at hwz
  rw [<- hwz]
  clear hwz
  obtain ⟨z0, z1, z2, zf⟩ := blk3 HZ.out
  refine bodyPost_ret (v := .tuple #[lossZero, .int .i64 E2]) (by simp [results, Tryz.results115, go_sem, lossZero, z0, z1, z2]) rfl ?_
  exact ⟨HXZ.out, Or.inl ⟨by rw [HQ.out]; exact HNZ.out, by rw [HQ.out]⟩⟩
 have t2 : (E2 != 0) = false := by simp [h2]
 have HR3 := hI (show R = if 2000 < X then 4 else if B = false then 16 else 0 by rw [HR2.out, if_neg (by simpa using h2)])
 have HXP2 := hI (HXP1.out h2)
 clear h2 HR2 HXP1
 obtain ⟨f0, f1, f2, f3, f4, f5, ff⟩ := blk6 HB12.out
 go_wp2_with fail
 refine (HXP2.out w2 HX2.out).mono ?_
 rintro r w3 ⟨rfl, hx3⟩
 have HX3 := hI (HX2.out.trans hx3)
 have HB03 := hI (hx3.blk HB02.out)
 have HB23 := hI (hx3.blk HB22.out)
 clear hx3 f0 f1 f2 f3 f4 f5 ff HXP2
 by_cases h3 : 2000 < X
 case pos =>
  have t3 : decide ((2000 : Int) < (X : Int)) = true := decide_eq_true (by omega)
  have HQ := hI (show R = 4 by rw [HR3.out, if_pos h3])
  clear h3
  obtain ⟨r0, r1, r2, rf⟩ := blk3 HB23.out
  go_wp2_with fail
  obtain ⟨wz, hwz⟩ : ∃ wz, wz = put3 w3 (w.heap.size + 1 + 1) (.slice none 0 0) (.map none) (.slice none 0 0) := ⟨_, rfl⟩
  have HZ := hI (show wz.heap[w.heap.size + 1 + 1]? = some (.cells #[.slice none 0 0, .map none, .slice none 0 0] 183 (0, 0)) by rw [hwz]; exact put3_blk HB23.out _ _ _)
  have HXZ := hI (show Ext w wz by rw [hwz]; exact (put3_chg w3 (w.heap.size + 1 + 1) (.slice none 0 0) (.map none) (.slice none 0 0) (N := [w.heap.size + 1 + 1]) (by simp)).ext HX3.out (fun y hy => by simp only [List.mem_singleton] at hy; omega))
  unfold put3 at hwz
  rw [<- hwz]
  clear hwz
  obtain ⟨z0, z1, z2, zf⟩ := blk3 HZ.out
  refine bodyPost_ret (v := .tuple #[lossZero, .int .i64 4]) (by simp [results, Tryz.results115, go_sem, lossZero, z0, z1, z2]) rfl ?_
  exact ⟨HXZ.out, Or.inl ⟨by rw [HQ.out]; decide, by rw [HQ.out]⟩⟩
 have t3 : decide ((2000 : Int) < (X : Int)) = false := decide_eq_false (by omega)
 have HR4 := hI (show R = if B = false then 16 else 0 by rw [HR3.out, if_neg h3])
 clear h3 HR3
 obtain ⟨e0, ef⟩ := blk1 HB03.out
 go_wp2_with fail
 refine (HFC.out w3 HX3.out).mono ?_
 rintro r w4 ⟨rfl, hx4⟩
 have HX4 := hI (HX3.out.trans hx4)
 have HB04 := hI (hx4.blk HB03.out)
 have HB24 := hI (hx4.blk HB23.out)
 clear hx4 e0 ef HFC
 cases B
 case false =>
  have HQ := hI (show R = 16 by rw [HR4.out]; rfl)
  obtain ⟨r0, r1, r2, rf⟩ := blk3 HB24.out
  go_wp2_with fail
  obtain ⟨wz, hwz⟩ : ∃ wz, wz = put3 w4 (w.heap.size + 1 + 1) (.slice none 0 0) (.map none) (.slice none 0 0) := ⟨_, rfl⟩
  have HZ := hI (show wz.heap[w.heap.size + 1 + 1]? = some (.cells #[.slice none 0 0, .map none, .slice none 0 0] 183 (0, 0)) by rw [hwz]; exact put3_blk HB24.out _ _ _)
  have HXZ := hI (show Ext w wz by rw [hwz]; exact (put3_chg w4 (w.heap.size + 1 + 1) (.slice none 0 0) (.map none) (.slice none 0 0) (N := [w.heap.size + 1 + 1]) (by simp)).ext HX4.out (fun y hy => by simp only [List.mem_singleton] at hy; omega))
  unfold put3 at hwz
  rw [<- hwz]
  clear hwz
  obtain ⟨z0, z1, z2, zf⟩ := blk3 HZ.out
  refine bodyPost_ret (v := .tuple #[lossZero, .int .i64 16]) (by simp [results, Tryz.results115, go_sem, lossZero, z0, z1, z2]) rfl ?_
  exact ⟨HXZ.out, Or.inl ⟨by rw [HQ.out]; decide, by rw [HQ.out]⟩⟩
 have HQ := hI (show R = 0 by rw [HR4.out]; rfl)
 have hmm := @run_makeMap Tryz.prog
 have HM0 := hI (MapAt.made w4 9)
 have HX0 := hI ((Ext.refl w4).alloc (.map #[] 0))
 obtain ⟨bf, hbf⟩ : ∃ bf : Nat, bf = w4.heap.size := ⟨_, rfl⟩
 have HBF := hI hbf
 have HBW := hI (show w.heap.size + 1 + 1 < bf by rw [hbf]; exact blk_lt HB24.out)
 go_wp2_with fail
 rw [<- hbf]
 rw [<- hbf] at HM0
 clear hbf hmm
 go_loopw [47] (fun i wr => ∃ (k : Nat) (g : BA -> Option Value), k <= n /\ i = .int .i64 k /\ MapAt wr 9 bf k (strF g) /\ DefsG w (l.take k) g /\ wr.heap[w.heap.size]? = some (.cells #[.slice sa sn sc] 24 (0, 0)) /\ wr.heap[w.heap.size + 1 + 1]? = some (.cells #[.slice none 0 0, .map none, .slice none 0 0] 183 (0, 0)) /\ Ext w wr) (fun i _ => n - (intOf i).toNat)
 case atStart =>
  refine ⟨0, fun _ => none, by omega, rfl, HM0.out.congr fun x => ?_, fun s => ⟨fun _ => rfl, fun d hd => ?_⟩, HX0.out.blk HB04.out, HX0.out.blk HB24.out, HX4.out.trans HX0.out⟩
  ·cases x <;> simp [strF]
  simp [defAt] at hd
 case round =>
  obtain ⟨k, g, hk, rfl, hmap, hg, hb0, hb2, hx⟩ := hrel
  have HMP := hI hmap
  have HX := hI hx
  have HG := hI hg
  have HBA := hI hb0
  have HBC := hI hb2
  have hbw := hmap.lt
  clear hmap hx hg HM0 HX0 hb0 hb2
  by_cases hlt : k < n
  ·have hlt' : k < l.length := by have := HN.out; omega
   have t1 : decide ((k : Int) < (n : Int)) = true := decide_eq_true (by omega)
   obtain ⟨cb, coff, v, rfl, hcla, hrow⟩ := HL.out.at hlt'
   obtain ⟨c0, c1, c2, c3, c4, c5, c6, c7, c8, c9⟩ := (hrow.mono HX.out.sub).ten
   have hns : v.name.size <= 1000000000000000 := by rw [hcla.2.1]; exact HSZ.out _ (List.getElem_mem hlt')
   have hblt := block_lt c0
   simp only at hblt
   have HEXV := hI (show IsEx w l[k].cond (.agg #[.int .i64 v.x.op, .string v.x.name, .slice v.x.aw v.x.nw v.x.cw, .int .i64 v.x.lo, .int .i64 v.x.hi, .slice v.x.aa v.x.na v.x.ca]) from hcla.2.2.1)
   have HEK := hI (show l[k].kind = v.kind from hcla.1.symm)
   have HEN := hI (show l[k].name = v.name from hcla.2.1.symm)
   have HFR := hI (HCK.out.fresh hlt')
   rw [HEN.out] at HFR
   have HST := hI (fun h1 h2 => HG.out.step hlt' h1 h2 HEXV.out)
   have HSK := hI (HG.out.skip hlt')
   rw [HEK.out, HEN.out] at HST HSK
   clear hcla hrow
   cases hkd : (v.kind == 1)
   ·have HKN := hI (HSK.out (Or.inl (by simpa using hkd)))
    go_wp2_with fail
    go_roundw
    case rel =>
     have hxa := (Ext.refl wr).alloc (.cells #[.int .i64 v.kind, .string v.name, .int .i64 v.x.op, .string v.x.name, .slice v.x.aw v.x.nw v.x.cw, .int .i64 v.x.lo, .int .i64 v.x.hi, .slice v.x.aa v.x.na v.x.ca, .slice v.au v.nu v.cu, .int .i64 v.amount] 48)
     exact ⟨k + 1, g, by omega, by go_num, (HMP.out.ext hxa).more (by omega), HKN.out, hxa.blk HBA.out, hxa.blk HBC.out, HX.out.trans hxa⟩
    case measure => simp [intOf]; omega
   have HKN := hI (HST.out (by simpa using hkd) HFR.out)
   go_wp2_with (at_mapUpdate; refine wpList_map_put _ rfl _ _ _ 131 rfl 9 45 keyedStr uMapSE bf k _ rfl (HMP.out.ext ((Ext.refl wr).alloc _)) ?c3 _ _ _ rfl rfl (keyStr hns) trivial ?_)
   case c3 => unfold maxLen; omega
   intro w6 hm1 hc1
   have hxa := (Ext.refl wr).alloc (.cells #[.int .i64 v.kind, .string v.name, .int .i64 v.x.op, .string v.x.name, .slice v.x.aw v.x.nw v.x.cw, .int .i64 v.x.lo, .int .i64 v.x.hi, .slice v.x.aa v.x.na v.x.ca, .slice v.au v.nu v.cu, .int .i64 v.amount] 48)
   have hxm : Ext w w6 := hc1.ext (HX.out.trans hxa) (fun y hy => by simp only [List.mem_singleton] at hy; have := HBW.out; omega)
   have HB06 := hI (hc1.blk (hxa.blk HBA.out) (by have := HBW.out; simp; omega))
   have HB26 := hI (hc1.blk (hxa.blk HBC.out) (by have := HBW.out; simp; omega))
   have HM1 := hI (hm1.congr (setF_str g v.name _))
   have HX1 := hI hxm
   clear hm1 hc1 hxa hxm
   go_wp2_with fail
   go_roundw
   case rel => exact ⟨k + 1, _, by omega, by go_num, HM1.out, HKN.out, HB06.out, HB26.out, HX1.out⟩
   case measure => simp [intOf]; omega
  have t1 : decide ((k : Int) < (n : Int)) = false := decide_eq_false (by omega)
  have HKN := hI (show k = n by omega)
  obtain ⟨e0, ef⟩ := blk1 HBA.out
  obtain ⟨r0, r1, r2, rf⟩ := blk3 HBC.out
  go_wp2_with fail
  obtain ⟨wz, hwz⟩ : ∃ wz, wz = put3 wr (w.heap.size + 1 + 1) (.slice sa sn sc) (.map (some bf)) (.slice fa fn fc) := ⟨_, rfl⟩
  have HZ := hI (show wz.heap[w.heap.size + 1 + 1]? = some (.cells #[.slice sa sn sc, .map (some bf), .slice fa fn fc] 183 (0, 0)) by rw [hwz]; exact put3_blk HBC.out _ _ _)
  have hcz : Chg [w.heap.size + 1 + 1] wr wz := by rw [hwz]; exact put3_chg wr (w.heap.size + 1 + 1) (.slice sa sn sc) (.map (some bf)) (.slice fa fn fc) (by simp)
  have HXZ := hI (hcz.ext HX.out (fun y hy => by simp only [List.mem_singleton] at hy; omega))
  have HLZ := hI (show IsLoss wz s l f ⟨sa, sn, sc, bf, fa, fn, fc⟩ n from ⟨HS.out.ext HXZ.out, by
   exact ⟨g, by rw [<- HKN.out]; exact HMP.out.chg hcz (by have := HBW.out; simp; omega), by have := HG.out.ext HXZ.out; rwa [List.take_of_length_le (by have := HN.out; omega)] at this⟩, HI.out.ext HXZ.out⟩)
  unfold put3 at hwz
  rw [<- hwz]
  clear hwz hcz
  obtain ⟨z0, z1, z2, zf⟩ := blk3 HZ.out
  refine bodyPost_ret (v := .tuple #[LossV.val ⟨sa, sn, sc, bf, fa, fn, fc⟩, .int .i64 0]) (by simp [results, Tryz.results115, go_sem, LossV.val, z0, z1, z2]) rfl ?_
  exact ⟨HXZ.out, Or.inr ⟨by rw [HQ.out], _, rfl, HLZ.out⟩⟩
open Go.RowKit
def wbsV (V : Ex -> Bool) : List Wb -> Bool
 | [] => false
 | .mk _ c u :: r => (V c && !wbsV V u) || wbsV V r
def wbsOkT (P : Ex -> Prop) : List Wb -> Prop
 | [] => True
 | .mk _ c u :: r => P c /\ wbsOkT P u /\ u.length <= 1000000000000000 /\ wbsOkT P r
theorem wbsV_drop (V : Ex -> Bool) {l : List Wb} {k : Nat} (hk : k < l.length) : wbsV V (l.drop k) = ((V l[k].cond && !wbsV V l[k].unl) || wbsV V (l.drop (k + 1))) := by
 rw [List.drop_eq_getElem_cons hk]
 cases h : l[k] with
 | mk n c u => rw [wbsV]; rfl
theorem wbsOkT_at {P : Ex -> Prop} : (l : List Wb) -> wbsOkT P l -> (k : Nat) -> (hk : k < l.length) -> P l[k].cond /\ wbsOkT P l[k].unl /\ l[k].unl.length <= 1000000000000000
 | [], _, k, hk => by simp at hk
 | .mk n c u :: r, h, 0, _ => by
  unfold wbsOkT at h
  exact ⟨h.1, h.2.1, h.2.2.1⟩
 | .mk n c u :: r, h, k + 1, hk => by
  unfold wbsOkT at h
  simpa using wbsOkT_at r h.2.2.2 k (by simpa using hk)
def TruthFor (w0 : World) (sa : OA) (sn sc : Nat) (a : OA) (n c : Nat) (fa : OA) (fn fc : Nat) (V : Ex -> Bool) (P : Ex -> Prop) : Prop :=
 ∀ (e : Ex) (x : ExV) (W : World), Ext w0 W -> P e -> IsEx W e x.val -> Calls Tryz.prog 127 #[.agg #[.slice sa sn sc], .slice a n c, x.val, .slice fa fn fc] W (GivesE (.bool (V e)) W)
def WbBox (nm : BA) (x : ExV) (au : OA) (nu cu : Nat) : Obj := .cells #[.string nm, .int .i64 x.op, .string x.name, .slice x.aw x.nw x.cw, .int .i64 x.lo, .int .i64 x.hi, .slice x.aa x.na x.ca, .slice au nu cu] 53 (0, 0)
def BkI (V : Ex -> Bool) (u : List Wb) (n : Nat) (w : World) (i : Value) (wr : World) : Prop := ∃ k : Nat, i = .int .i64 k /\ k <= n /\ wbsV V u = wbsV V (u.drop k) /\ Ext w wr
def rbk6R (b0 : Nat) (sa : OA) (sn sc : Nat) (a : OA) (n c : Nat) (fa : OA) (fn fc : Nat) (b off k nu cu : Nat) (v : WbV) (Q : Bool) : Nat -> Value -> World -> Prop
 | 0, u, _ => u = .agg #[.slice sa sn sc]
 | 1, u, _ => u = .slice a n c
 | 2, u, _ => u = .pointer (some ⟨b0 + 1, 7, none⟩)
 | 3, u, _ => u = .slice (some ⟨b, off, none⟩) nu cu
 | 4, u, _ => u = .int .i64 k
 | 5, u, _ => u = .pointer (some ⟨b, off + k * 8, none⟩)
 | 6, u, _ => u = .agg #[.string v.name, .int .i64 v.x.op, .string v.x.name, .slice v.x.aw v.x.nw v.x.cw, .int .i64 v.x.lo, .int .i64 v.x.hi, .slice v.x.aa v.x.na v.x.ca, .slice v.au v.nu v.cu]
 | 7, u, _ => u = .slice fa fn fc
 | _, u, _ => u = .bool Q
theorem rbackApp_calls {w0 : World} {sa : OA} {sn sc : Nat} {a : OA} {n c : Nat} {fa : OA} {fn fc : Nat} {V : Ex -> Bool} {P : Ex -> Prop} (ht : TruthFor w0 sa sn sc a n c fa fn fc V P) : ∀ (m : Nat) (cond : Ex) (u : List Wb) (nm : BA) (x : ExV) (au : OA) (nu cu : Nat) (w : World), wbN u <= m -> Ext w0 w -> P cond -> wbsOkT P u -> nu <= 1000000000000000 -> nu = u.length -> IsEx w cond x.val -> WbsD w u au ->
  Calls Tryz.prog 97 #[.agg #[.slice sa sn sc], .slice a n c, .agg #[.string nm, .int .i64 x.op, .string x.name, .slice x.aw x.nw x.cw, .int .i64 x.lo, .int .i64 x.hi, .slice x.aa x.na x.ca, .slice au nu cu], .slice fa fn fc] w (GivesE (.bool (V cond && !wbsV V u)) w) := by
 intro m
 induction m using Nat.strongRecOn with
 | _ m ih =>
  intro cond u nm x au nu cu w hm hx0 hp hok hnu hlen hex hd
  have HT := hI (fun (W : World) (hW : Ext w W) => ht cond x W (hx0.trans hW) hp (hex.ext hW))
  have HIH := hI (fun (k : Nat) (hk : k < u.length) (v : WbV) (W : World) (hW : Ext w W) (hvx : IsEx W u[k].cond v.x.val) (hvn : v.nu = u[k].unl.length) (hvd : WbsD W u[k].unl v.au) => ih (wbN u[k].unl) (by have := wbN_at u k hk; omega) u[k].cond u[k].unl v.name v.x v.au v.nu v.cu W (Nat.le_refl _) (hx0.trans hW) (wbsOkT_at u hok k hk).1 (wbsOkT_at u hok k hk).2.1 (by have := (wbsOkT_at u hok k hk).2.2; omega) hvn hvx hvd)
  have HD := hI hd
  have HLEN := hI hlen
  unfold ExV.val exV at HT
  obtain ⟨T, hT⟩ : ∃ T, T = V cond := ⟨_, rfl⟩
  rw [<- hT] at HT ⊢
  clear ih hm hx0 hp hok hlen hex hd hT
  obtain ⟨wa, hwa⟩ : ∃ wa, wa = (w.alloc (.cells #[.slice sa sn sc] 24)).alloc (.cells #[.string nm, .int .i64 x.op, .string x.name, .slice x.aw x.nw x.cw, .int .i64 x.lo, .int .i64 x.hi, .slice x.aa x.na x.ca, .slice au nu cu] 53) := ⟨_, rfl⟩
  have HXA := hI (show Ext w wa by rw [hwa]; exact ((Ext.refl _).alloc _).alloc _)
  have HA4 := hI (show wa.heap[w.heap.size]? = some (.cells #[.slice sa sn sc] 24 (0, 0)) by rw [hwa]; exact blk_alloc (alloc_new w _))
  have HA6 := hI (show wa.heap[w.heap.size + 1]? = some (WbBox nm x au nu cu) by rw [hwa]; exact alloc_at (by simp))
  obtain ⟨s0, sf⟩ := blk1 HA4.out
  obtain ⟨y0, y1, y2, y3, y4, y5, y6, y7, yf⟩ := blk8 HA6.out
  go_enter Tryz.func97, Tryz.ntmps97
  go_upto_region 1 with fail
  rw [<- hwa]
  clear hwa
  go_wp2_with fail
  refine (HT.out wa HXA.out).mono ?_
  rintro r w1 ⟨rfl, hx1⟩
  have HX1 := hI (HXA.out.trans hx1)
  have HB4 := hI (hx1.blk HA4.out)
  have HB6 := hI (hx1.blk HA6.out)
  clear hx1 s0 sf y0 y1 y2 y3 y4 y5 y6 y7 yf HA4 HA6 HT HXA
  cases T
  ·go_wp2_with fail
   go_ret
   exact givesE_bool (by simp) HX1.out
  go_wp2_with fail
  go_loopw [9] (BkI V u nu w1) (fun i _ => nu - (intOf i).toNat)
  case atStart => exact ⟨0, rfl, Nat.zero_le _, rfl, Ext.refl _⟩
  case round =>
   obtain ⟨k, rfl, hk, hv, hx⟩ := hrel
   obtain ⟨wo, rfl⟩ : ∃ wo : World, wo = wr := ⟨_, rfl⟩
   have HV := hI hv
   have HX := hI hx
   obtain ⟨b0, hb0⟩ : ∃ b0, b0 = w.heap.size := ⟨_, rfl⟩
   rw [<- hb0] at HB4 HB6 ⊢
   obtain ⟨s0, sf⟩ := blk1 (hx.blk HB4.out)
   obtain ⟨y0, y1, y2, y3, y4, y5, y6, y7, yf⟩ := blk8 (hx.blk HB6.out)
   clear hv hx hb0
   by_cases hkn : k < nu
   ·have hkl : k < u.length := by have := HLEN.out; omega
    have t1 : decide ((k : Int) < (nu : Int)) = true := decide_eq_true (by omega)
    have tk0 : (0 : Int) <= (k : Int) := by omega
    have tk1 : (k : Int) < (nu : Int) := by omega
    obtain ⟨b, off, rfl, v, hvn, hrow, hvx, hvu, -, -, hvd⟩ := WbsD.at u _ (WbsD.mono (HX1.out.trans HX.out).sub u _ HD.out) k hkl
    obtain ⟨c0, c1, c2, c3, c4, c5, c6, c7⟩ := hrow.eight
    have HREC := hI (fun W (hW : Ext wo W) => HIH.out k hkl v W ((HX1.out.trans HX.out).trans hW) (hvx.ext hW) hvu (WbsD.mono hW.sub _ _ hvd))
    have HST := hI (wbsV_drop V hkl)
    obtain ⟨Q, hQ⟩ : ∃ Q, Q = (V u[k].cond && !wbsV V u[k].unl) := ⟨_, rfl⟩
    rw [<- hQ] at HREC HST
    clear hvn hrow hvx hvu hvd hQ HIH
    go_upto_region 6 with fail
    refine wp_region_grow (m := 9) [8] (GrG wo) GrE (GrP (rbk6R b0 sa sn sc a n c fa fn fc b off k nu cu v Q)) (by kernel_rfl) (by kernel_rfl) ((Ext.refl wo).drew) ?_ ?_ ?_
    ·intro i k v W W' hi hk hne hout h hE
     have hE : Ext W W' := hE
     have hi' := ltc9 hi
     clear hi hk hne hout
     rcases hi' with rfl | rfl | rfl | rfl | rfl | rfl | rfl | rfl | rfl
     ·exact h
     ·exact h
     ·exact h
     ·exact h
     ·exact h
     ·exact h
     ·exact h
     ·exact h
     exact h
    ·intro q op hq ho vs W hW hd ρ hρ
     have hq' := ltc9 hq
     clear hq
     have o4 : ρ (.tmp 4) = .pointer (some ⟨b0, 0, none⟩) := hρ.out 4 rfl
     have o1 : ρ (.tmp 1) = .slice a n c := hρ.out 1 rfl
     have o6 : ρ (.tmp 6) = .pointer (some ⟨b0 + 1, 0, none⟩) := hρ.out 6 rfl
     have i2 := hρ.i 2 26
     have o9 : ρ (.tmp 9) = .int .i64 k := hρ.out 9 rfl
     have i3 := hρ.i 3 27
     have i4 := hρ.i 4 28
     have i5 := hρ.i 5 29
     have o3 : ρ (.tmp 3) = .slice fa fn fc := hρ.out 3 rfl
     have i0 := hρ.i 0 24
     have i1 := hρ.i 1 25
     have i6 := hρ.i 6 30
     have i7 := hρ.i 7 31
     have hc := hρ.const
     have hfn := hρ.func
     clear hρ
     have HW := hI (show Ext wo W from hW)
     rcases hq' with rfl | rfl | rfl | rfl | rfl | rfl | rfl | rfl | rfl
     ·cases ho
      clear hd
      have g0 := HW.out.cell s0
      unfold GivesOp
      go_simp
      exact ⟨Ext.refl W, rfl⟩
     ·cases ho
      clear hd
      unfold GivesOp
      go_simp
      exact ⟨Ext.refl W, rfl⟩
     ·cases ho
      clear hd
      unfold GivesOp
      go_simp
      exact ⟨Ext.refl W, rfl⟩
     ·cases ho
      have h2 : vs 2 = _ := hd ⟨2, .data⟩ (by simp) rfl
      rw [h2] at i2
      clear hd
      have g0 := HW.out.cell y7
      unfold GivesOp
      go_simp
      exact ⟨Ext.refl W, rfl⟩
     ·cases ho
      clear hd
      unfold GivesOp
      go_simp
      exact ⟨Ext.refl W, rfl⟩
     ·cases ho
      have h3 : vs 3 = _ := hd ⟨3, .data⟩ (by simp) rfl
      rw [h3] at i3
      have h4 : vs 4 = _ := hd ⟨4, .data⟩ (by simp) rfl
      rw [h4] at i4
      clear hd
      unfold GivesOp
      go_simp
      exact ⟨Ext.refl W, rfl⟩
     ·cases ho
      have h5 : vs 5 = _ := hd ⟨5, .data⟩ (by simp) rfl
      rw [h5] at i5
      clear hd
      have g0 := HW.out.cell c0
      have g1 := HW.out.cell c1
      have g2 := HW.out.cell c2
      have g3 := HW.out.cell c3
      have g4 := HW.out.cell c4
      have g5 := HW.out.cell c5
      have g6 := HW.out.cell c6
      have g7 := HW.out.cell c7
      unfold GivesOp
      go_simp
      exact ⟨Ext.refl W, rfl⟩
     ·cases ho
      clear hd
      unfold GivesOp
      go_simp
      exact ⟨Ext.refl W, rfl⟩
     cases ho
     have h0 : vs 0 = _ := hd ⟨0, .data⟩ (by simp) rfl
     rw [h0] at i0
     have h1 : vs 1 = _ := hd ⟨1, .data⟩ (by simp) rfl
     rw [h1] at i1
     have h6 : vs 6 = _ := hd ⟨6, .data⟩ (by simp) rfl
     rw [h6] at i6
     have h7 : vs 7 = _ := hd ⟨7, .data⟩ (by simp) rfl
     rw [h7] at i7
     clear hd
     unfold GivesOp
     go_simp
     refine (HREC.out W HW.out).mono ?_
     rintro r w5 ⟨rfl, hx5⟩
     exact ⟨_, rfl, hx5, HW.out.trans hx5, rfl⟩
    intro vs W hW hR
    rw [if_pos (by decide +kernel)]
    have h8 : vs 8 = .bool Q := hR 8 (by simp) (by omega)
    simp only [acts, dstAt, List.range, List.range.loop, List.foldl_cons, List.foldl_nil, h8]
    go_simp
    have hW2 : Ext wo W := hW
    clear hR hW h8
    cases Q
    ·go_wp2_with fail
     go_roundw
     case rel => exact ⟨k + 1, by go_num, by omega, by rw [HV.out, HST.out]; rfl, HX.out.trans hW2⟩
     case measure => simp [intOf]; omega
    have HQ := hI (show wbsV V u = true by rw [HV.out, HST.out]; rfl)
    go_wp2_with fail
    go_ret
    exact givesE_bool (by rw [HQ.out]; rfl) ((HX1.out.trans HX.out).trans hW2)
   have t1 : decide ((k : Int) < (nu : Int)) = false := decide_eq_false (by omega)
   have HQ := hI (show wbsV V u = false by
    rw [HV.out, show k = u.length by have := HLEN.out; omega, List.drop_length, wbsV])
   go_wp2_with fail
   go_ret
   exact givesE_bool (by rw [HQ.out]; rfl) (HX1.out.trans HX.out)
def claV (V : Ex -> Bool) (x : Cla) : Bool := V x.cond && !wbsV V x.unl
theorem rApplies_calls {w0 : World} {sa : OA} {sn sc : Nat} {a : OA} {n c : Nat} {fa : OA} {fn fc : Nat} {V : Ex -> Bool} {P : Ex -> Prop} (ht : TruthFor w0 sa sn sc a n c fa fn fc V P) (x : Cla) (v : ClV) (w : World) (hx0 : Ext w0 w) (hp : P x.cond) (hok : wbsOkT P x.unl) (hnu : x.unl.length <= 1000000000000000) (hi : IsCla w x v) :
  Calls Tryz.prog 64 #[.agg #[.slice sa sn sc], .slice a n c, .agg #[.int .i64 v.kind, .string v.name, .int .i64 v.x.op, .string v.x.name, .slice v.x.aw v.x.nw v.x.cw, .int .i64 v.x.lo, .int .i64 v.x.hi, .slice v.x.aa v.x.na v.x.ca, .slice v.au v.nu v.cu, .int .i64 v.amount], .slice fa fn fc] w (GivesE (.bool (claV V x)) w) := by
 obtain ⟨-, -, hex, hlen, -, -, hd, -⟩ := hi
 have HB := hI (fun (W : World) (hW : Ext w W) => rbackApp_calls ht (wbN x.unl) x.cond x.unl ⟨#[]⟩ v.x v.au v.nu v.cu W (Nat.le_refl _) (hx0.trans hW) hp hok (by omega) hlen (hex.ext hW) (WbsD.mono hW.sub _ _ hd))
 obtain ⟨R, hR⟩ : ∃ R, R = claV V x := ⟨_, rfl⟩
 rw [<- hR]
 have hR' : (V x.cond && !wbsV V x.unl) = R := hR.symm
 rw [hR'] at HB
 clear hR hR' hex hlen hd
 obtain ⟨wa, hwa⟩ : ∃ wa, wa = (w.alloc (.cells #[.slice sa sn sc] 24)).alloc (.cells #[.int .i64 v.kind, .string v.name, .int .i64 v.x.op, .string v.x.name, .slice v.x.aw v.x.nw v.x.cw, .int .i64 v.x.lo, .int .i64 v.x.hi, .slice v.x.aa v.x.na v.x.ca, .slice v.au v.nu v.cu, .int .i64 v.amount] 48) := ⟨_, rfl⟩
 have HXA := hI (show Ext w wa by rw [hwa]; exact ((Ext.refl _).alloc _).alloc _)
 obtain ⟨s0, sf⟩ := blk1 (show wa.heap[w.heap.size]? = some (.cells #[.slice sa sn sc] 24 (0, 0)) by rw [hwa]; exact blk_alloc (alloc_new w _))
 obtain ⟨y0, y1, y2, y3, y4, y5, y6, y7, y8, y9, yf⟩ := blk10r (show wa.heap[w.heap.size + 1]? = some (.cells #[.int .i64 v.kind, .string v.name, .int .i64 v.x.op, .string v.x.name, .slice v.x.aw v.x.nw v.x.cw, .int .i64 v.x.lo, .int .i64 v.x.hi, .slice v.x.aa v.x.na v.x.ca, .slice v.au v.nu v.cu, .int .i64 v.amount] 48 (0, 0)) by rw [hwa]; exact alloc_at (by simp))
 go_enter Tryz.func64, Tryz.ntmps64
 go_upto_region 1 with fail
 rw [<- hwa]
 clear hwa
 go_wp2_with fail
 refine (HB.out wa HXA.out).mono ?_
 rintro r w1 ⟨rfl, hx1⟩
 have HX1 := hI (HXA.out.trans hx1)
 clear hx1
 go_wp2_with fail
 go_ret
 exact givesE_bool rfl HX1.out
structure VerIn (w0 : World) (sa : OA) (sn sc : Nat) (l : List Cla) (a : OA) (n c : Nat) (fa : OA) (fn fc : Nat) (V : Ex -> Bool) (P : Ex -> Prop) : Prop where
 tr : TruthFor w0 sa sn sc a n c fa fn fc V P
 cla : IsClas w0 l a n c
 few : n <= 1000000
 ok : ∀ x ∈ l, P x.cond /\ wbsOkT P x.unl /\ x.unl.length <= 1000000000000000
def someB (V : Ex -> Bool) (kind : Int) (neg : Bool) : List Cla -> Bool
 | [] => false
 | x :: r => (x.kind == kind && (claV V x != neg)) || someB V kind neg r
theorem someB_drop (V : Ex -> Bool) (kind : Int) (neg : Bool) {l : List Cla} {k : Nat} (hk : k < l.length) : someB V kind neg (l.drop k) = ((l[k].kind == kind && (claV V l[k] != neg)) || someB V kind neg (l.drop (k + 1))) := by
 rw [List.drop_eq_getElem_cons hk, someB]
def greatS (V : Ex -> Bool) (kind : Int) (m : Int) (x : Cla) : Int := if (x.kind == kind && claV V x) = true then max m x.amount else m
def greatK (V : Ex -> Bool) (kind : Int) (l : List Cla) : Int := l.foldl (greatS V kind) 0
theorem greatK_take (V : Ex -> Bool) (kind : Int) {l : List Cla} {k : Nat} (hk : k < l.length) : greatK V kind (l.take (k + 1)) = greatS V kind (greatK V kind (l.take k)) l[k] := by
 unfold greatK
 rw [List.take_succ_eq_append_getElem hk, List.foldl_append]
 rfl
def SmL (V : Ex -> Bool) (kind : Int) (neg : Bool) (l : List Cla) (n : Nat) (w : World) (i : Value) (wr : World) : Prop := ∃ k : Nat, i = .int .i64 k /\ k <= n /\ someB V kind neg l = someB V kind neg (l.drop k) /\ Ext w wr
def GtL (V : Ex -> Bool) (kind : Int) (l : List Cla) (n : Nat) (w : World) (v i : Value) (wr : World) : Prop := ∃ k : Nat, v = .int .i64 (greatK V kind (l.take k)) /\ i = .int .i64 k /\ k <= n /\ Ext w wr
def GrGR (wr : World) (_ : ZN) (_ : Nat -> Value) (W : World) : Prop := Ext wr W
def rsom4R (_b0 : Nat) (sa : OA) (sn sc b off n c : Nat) (fa : OA) (fn fc k : Nat) (kind : Int) (neg : Bool) (v : ClV) (Q : Bool) : Nat -> Value -> World -> Prop
 | 0, u, _ => u = .slice (some ⟨b, off, none⟩) n c
 | 1, u, _ => u = .int .i64 k
 | 2, u, _ => u = .pointer (some ⟨b, off + k * 10, none⟩)
 | 3, u, _ => u = .pointer (some ⟨b, off + k * 10, none⟩)
 | 4, u, _ => u = .int .i64 v.kind
 | 5, u, _ => u = .int .i64 kind
 | 6, u, _ => u = .bool true
 | 7, u, _ => u = .bool true
 | 8, u, _ => u = .agg #[.slice sa sn sc]
 | 9, u, _ => u = .slice (some ⟨b, off, none⟩) n c
 | 10, u, _ => u = .slice (some ⟨b, off, none⟩) n c
 | 11, u, _ => u = .int .i64 k
 | 12, u, _ => u = .pointer (some ⟨b, off + k * 10, none⟩)
 | 13, u, _ => u = .agg #[.int .i64 v.kind, .string v.name, .int .i64 v.x.op, .string v.x.name, .slice v.x.aw v.x.nw v.x.cw, .int .i64 v.x.lo, .int .i64 v.x.hi, .slice v.x.aa v.x.na v.x.ca, .slice v.au v.nu v.cu, .int .i64 v.amount]
 | 14, u, _ => u = .slice fa fn fc
 | 15, u, _ => u = .bool Q
 | 16, u, _ => u = .bool neg
 | 17, u, _ => u = .bool (Q != neg)
 | _, u, _ => u = .bool (Q != neg)
def rgre5R (_b0 : Nat) (sa : OA) (sn sc b off n c : Nat) (fa : OA) (fn fc k : Nat) (kind : Int) (v : ClV) (Q : Bool) : Nat -> Value -> World -> Prop
 | 0, u, _ => u = .slice (some ⟨b, off, none⟩) n c
 | 1, u, _ => u = .int .i64 k
 | 2, u, _ => u = .pointer (some ⟨b, off + k * 10, none⟩)
 | 3, u, _ => u = .pointer (some ⟨b, off + k * 10, none⟩)
 | 4, u, _ => u = .int .i64 v.kind
 | 5, u, _ => u = .int .i64 kind
 | 6, u, _ => u = .bool true
 | 7, u, _ => u = .bool true
 | 8, u, _ => u = .agg #[.slice sa sn sc]
 | 9, u, _ => u = .slice (some ⟨b, off, none⟩) n c
 | 10, u, _ => u = .slice (some ⟨b, off, none⟩) n c
 | 11, u, _ => u = .int .i64 k
 | 12, u, _ => u = .pointer (some ⟨b, off + k * 10, none⟩)
 | 13, u, _ => u = .agg #[.int .i64 v.kind, .string v.name, .int .i64 v.x.op, .string v.x.name, .slice v.x.aw v.x.nw v.x.cw, .int .i64 v.x.lo, .int .i64 v.x.hi, .slice v.x.aa v.x.na v.x.ca, .slice v.au v.nu v.cu, .int .i64 v.amount]
 | 14, u, _ => u = .slice fa fn fc
 | 15, u, _ => u = .bool Q
 | _, u, _ => u = .bool Q
theorem rSome_calls {w0 : World} {sa : OA} {sn sc : Nat} {l : List Cla} {a : OA} {n c : Nat} {fa : OA} {fn fc : Nat} {V : Ex -> Bool} {P : Ex -> Prop} (hv : VerIn w0 sa sn sc l a n c fa fn fc V P) (kind : Int) (neg : Bool) (w : World) (hx0 : Ext w0 w) :
  Calls Tryz.prog 62 #[.agg #[.slice sa sn sc], .slice a n c, .int .i64 kind, .slice fa fn fc, .bool neg] w (GivesE (.bool (someB V kind neg l)) w) := by
 have HN := hI hv.cla.len
 have HC := hI hv.cla
 have hn := hv.few
 have HAP := hI (fun (k : Nat) (hk : k < l.length) (v : ClV) W (hW : Ext w W) (hcl : IsCla W l[k] v) => rApplies_calls hv.tr l[k] v W (hx0.trans hW) (hv.ok _ (List.getElem_mem hk)).1 (hv.ok _ (List.getElem_mem hk)).2.1 (hv.ok _ (List.getElem_mem hk)).2.2 hcl)
 have HX0 := hI hx0
 clear hv hx0
 obtain ⟨wa, hwa⟩ : ∃ wa, wa = w.alloc (.cells #[.slice sa sn sc] 24) := ⟨_, rfl⟩
 have HXA := hI (show Ext w wa by rw [hwa]; exact (Ext.refl _).alloc _)
 have HA5 := hI (show wa.heap[w.heap.size]? = some (.cells #[.slice sa sn sc] 24 (0, 0)) by rw [hwa]; exact alloc_new w _)
 go_enter Tryz.func62, Tryz.ntmps62
 go_upto_region 1 with fail
 rw [<- hwa]
 clear hwa
 go_wp2_with fail
 go_loopw [11] (SmL V kind neg l n wa) (fun i _ => n - (intOf i).toNat)
 case atStart => exact ⟨0, rfl, Nat.zero_le _, rfl, Ext.refl _⟩
 case round =>
  obtain ⟨k, rfl, hk, hv, hx⟩ := hrel
  obtain ⟨wo, rfl⟩ : ∃ wo : World, wo = wr := ⟨_, rfl⟩
  have HV := hI hv
  have HX := hI hx
  obtain ⟨b0, hb0⟩ : ∃ b0, b0 = w.heap.size := ⟨_, rfl⟩
  rw [<- hb0] at HA5 ⊢
  obtain ⟨s0, sf⟩ := blk1 (hx.blk HA5.out)
  clear hv hx hb0
  by_cases hkn : k < n
  ·have hkl : k < l.length := by have := HN.out; omega
   have t1 : decide ((k : Int) < (n : Int)) = true := decide_eq_true (by omega)
   have tk0 : (0 : Int) <= (k : Int) := by omega
   have tk1 : (k : Int) < (n : Int) := by omega
   obtain ⟨b, off, v, rfl, hcl, hrow⟩ := (HC.out.ext (HX0.out.trans (HXA.out.trans HX.out))).at hkl
   obtain ⟨c0, c1, c2, c3, c4, c5, c6, c7, c8, c9⟩ := hrow.ten
   have hvk : v.kind = l[k].kind := hcl.1
   have HREC := hI (fun W (hW : Ext wo W) => HAP.out k hkl v W ((HXA.out.trans HX.out).trans hW) (hcl.mono hW.sub))
   have HST := hI (someB_drop V kind neg hkl)
   rw [<- hvk] at HST
   obtain ⟨Q, hQ⟩ : ∃ Q, Q = claV V l[k] := ⟨_, rfl⟩
   rw [<- hQ] at HREC HST
   clear hrow hcl hvk hQ HAP
   cases hq : (v.kind == kind)
   ·have HQ := hI hq
    go_wp2_with fail
    go_quiet (fail)
    go_wp2_with fail
    go_roundw
    case rel => exact ⟨k + 1, by go_num, by omega, by rw [HV.out, HST.out, HQ.out]; rfl, HX.out.drewN _⟩
    case measure => simp [intOf]; omega
   have HQ := hI hq
   go_upto_region 4 with fail
   refine wp_region_growLG (n := 37) (m := 19) [18] (GrGR wo) GrE (GrP (rsom4R b0 sa sn sc b off n c fa fn fc k kind neg v Q)) (by kernel_rfl) (by kernel_rfl) (Nat.le_of_ble_eq_true rfl) ?gd ((Ext.refl wo).drew) ?_ ?_ ?_
   case gd =>
    intro i o j b hi ho hg
    rcases ltc19 hi with rfl | rfl | rfl | rfl | rfl | rfl | rfl | rfl | rfl | rfl | rfl | rfl | rfl | rfl | rfl | rfl | rfl | rfl | rfl <;> (cases ho; first | (cases hg; done) | (cases hg; intro v W h; exact h))
   ·intro i k v W W' hi hk hne hout h hE
    have hE : Ext W W' := hE
    have hi' := ltc19 hi
    clear hi hk hne hout
    rcases hi' with rfl | rfl | rfl | rfl | rfl | rfl | rfl | rfl | rfl | rfl | rfl | rfl | rfl | rfl | rfl | rfl | rfl | rfl | rfl
    ·exact h
    ·exact h
    ·exact h
    ·exact h
    ·exact h
    ·exact h
    ·exact h
    ·exact h
    ·exact h
    ·exact h
    ·exact h
    ·exact h
    ·exact h
    ·exact h
    ·exact h
    ·exact h
    ·exact h
    ·exact h
    exact h
   ·intro q op hq ho L vs W hqL hcL hW hd ρ hρ
    have hq' := ltc19 hq
    clear hq
    have o1 : ρ (.tmp 1) = .slice (some ⟨b, off, none⟩) n c := hρ.out 1 rfl
    have o11 : ρ (.tmp 11) = .int .i64 k := hρ.out 11 rfl
    have i0 := hρ.i 0 18
    have i1 := hρ.i 1 19
    have i2 := hρ.i 2 20
    have i3 := hρ.i 3 21
    have o2 : ρ (.tmp 2) = .int .i64 kind := hρ.out 2 rfl
    have i4 := hρ.i 4 22
    have i5 := hρ.i 5 23
    have i6 := hρ.i 6 24
    have o5 : ρ (.tmp 5) = .pointer (some ⟨b0, 0, none⟩) := hρ.out 5 rfl
    have i10 := hρ.i 10 28
    have i11 := hρ.i 11 29
    have i12 := hρ.i 12 30
    have o3 : ρ (.tmp 3) = .slice fa fn fc := hρ.out 3 rfl
    have i8 := hρ.i 8 26
    have i9 := hρ.i 9 27
    have i13 := hρ.i 13 31
    have i14 := hρ.i 14 32
    have o4 : ρ (.tmp 4) = .bool neg := hρ.out 4 rfl
    have i15 := hρ.i 15 33
    have i16 := hρ.i 16 34
    have i7 := hρ.i 7 25
    have i17 := hρ.i 17 35
    have hc := hρ.const
    have hfn := hρ.func
    clear hρ
    have HG := hI hW
    have HW := hI (show Ext wo W from hW)
    have HQL := hI hqL
    clear hW hqL hcL
    have kf0 := HW.out.cell s0
    have kf1 := HW.out.cell c0
    have kf2 := HW.out.cell c1
    have kf3 := HW.out.cell c2
    have kf4 := HW.out.cell c3
    have kf5 := HW.out.cell c4
    have kf6 := HW.out.cell c5
    have kf7 := HW.out.cell c6
    have kf8 := HW.out.cell c7
    have kf9 := HW.out.cell c8
    have kf10 := HW.out.cell c9
    by_cases hs15 : q = 15
    ·subst hs15
     clear hq'
     cases ho
     have h8 : vs 8 = _ := hd ⟨8, .data⟩ (by simp) rfl
     rw [h8] at i8
     have h9 : vs 9 = _ := hd ⟨9, .data⟩ (by simp) rfl
     rw [h9] at i9
     have h13 : vs 13 = _ := hd ⟨13, .data⟩ (by simp) rfl
     rw [h13] at i13
     have h14 : vs 14 = _ := hd ⟨14, .data⟩ (by simp) rfl
     rw [h14] at i14
     clear hd
     unfold GivesOp
     go_simp
     refine (HREC.out W HW.out).mono ?_
     rintro r w5 ⟨rfl, hx5⟩
     exact ⟨_, rfl, hx5, HW.out.trans hx5, rfl⟩
    rcases hq' with rfl | rfl | rfl | rfl | rfl | rfl | rfl | rfl | rfl | rfl | rfl | rfl | rfl | rfl | rfl | rfl | rfl | rfl | rfl
    all_goals first | (exact absurd rfl hs15; done) | skip
    all_goals
     cases ho
     simp [isDataG, GrP, rsom4R] at hd
     clear hs15
     unfold GivesOp
     go_simp
     exact ⟨Ext.refl _, HW.out, rfl⟩
   intro L vs W hLm hW hR
   rw [if_pos (by decide +kernel)]
   have h18 : vs 18 = .bool (Q != neg) := hR 18 (by simp) (by omega)
   simp only [acts, dstAt, List.range, List.range.loop, List.foldl_cons, List.foldl_nil, h18]
   go_simp
   have hW2 : Ext wo W := hW
   clear hR hW hLm h18
   cases hqn : (Q != neg)
   ·have HQN := hI hqn
    go_wp2_with fail
    go_roundw
    case rel => exact ⟨k + 1, by go_num, by omega, by rw [HV.out, HST.out, HQ.out, HQN.out]; rfl, HX.out.trans hW2⟩
    case measure => simp [intOf]; omega
   have HQN := hI hqn
   have HR := hI (show someB V kind neg l = true by rw [HV.out, HST.out, HQ.out, HQN.out]; rfl)
   go_wp2_with fail
   go_ret
   exact givesE_bool (by rw [HR.out]) (HXA.out.trans (HX.out.trans hW2))
  have t1 : decide ((k : Int) < (n : Int)) = false := decide_eq_false (by omega)
  have HQ := hI (show someB V kind neg l = false by
   rw [HV.out, show k = l.length by have := HN.out; omega, List.drop_length, someB])
  go_wp2_with fail
  go_ret
  exact givesE_bool (by rw [HQ.out]) (HXA.out.trans HX.out)
theorem rGreatest_calls {w0 : World} {sa : OA} {sn sc : Nat} {l : List Cla} {a : OA} {n c : Nat} {fa : OA} {fn fc : Nat} {V : Ex -> Bool} {P : Ex -> Prop} (hv : VerIn w0 sa sn sc l a n c fa fn fc V P) (kind : Int) (w : World) (hx0 : Ext w0 w) :
  Calls Tryz.prog 63 #[.agg #[.slice sa sn sc], .slice a n c, .int .i64 kind, .slice fa fn fc] w (GivesE (.int .i64 (greatK V kind l)) w) := by
 have HN := hI hv.cla.len
 have HC := hI hv.cla
 have hn := hv.few
 have HAP := hI (fun (k : Nat) (hk : k < l.length) (v : ClV) W (hW : Ext w W) (hcl : IsCla W l[k] v) => rApplies_calls hv.tr l[k] v W (hx0.trans hW) (hv.ok _ (List.getElem_mem hk)).1 (hv.ok _ (List.getElem_mem hk)).2.1 (hv.ok _ (List.getElem_mem hk)).2.2 hcl)
 have HX0 := hI hx0
 clear hv hx0
 obtain ⟨wa, hwa⟩ : ∃ wa, wa = w.alloc (.cells #[.slice sa sn sc] 24) := ⟨_, rfl⟩
 have HXA := hI (show Ext w wa by rw [hwa]; exact (Ext.refl _).alloc _)
 have HA5 := hI (show wa.heap[w.heap.size]? = some (.cells #[.slice sa sn sc] 24 (0, 0)) by rw [hwa]; exact alloc_new w _)
 go_enter Tryz.func63, Tryz.ntmps63
 go_upto_region 1 with fail
 rw [<- hwa]
 clear hwa
 go_wp2_with fail
 go_loopw [9, 10] (GtL V kind l n wa) (fun _ i _ => n - (intOf i).toNat)
 case atStart => exact ⟨0, rfl, rfl, Nat.zero_le _, Ext.refl _⟩
 case round =>
  obtain ⟨k, rfl, rfl, hk, hx⟩ := hrel
  obtain ⟨wo, rfl⟩ : ∃ wo : World, wo = wr := ⟨_, rfl⟩
  have HX := hI hx
  obtain ⟨b0, hb0⟩ : ∃ b0, b0 = w.heap.size := ⟨_, rfl⟩
  rw [<- hb0] at HA5 ⊢
  obtain ⟨s0, sf⟩ := blk1 (hx.blk HA5.out)
  clear hx hb0
  by_cases hkn : k < n
  ·have hkl : k < l.length := by have := HN.out; omega
   have t1 : decide ((k : Int) < (n : Int)) = true := decide_eq_true (by omega)
   have tk0 : (0 : Int) <= (k : Int) := by omega
   have tk1 : (k : Int) < (n : Int) := by omega
   obtain ⟨b, off, v, rfl, hcl, hrow⟩ := (HC.out.ext (HX0.out.trans (HXA.out.trans HX.out))).at hkl
   obtain ⟨c0, c1, c2, c3, c4, c5, c6, c7, c8, c9⟩ := hrow.ten
   have hvk : v.kind = l[k].kind := hcl.1
   have hva : v.amount = l[k].amount := hcl.2.2.2.2.2.2.2
   have HREC := hI (fun W (hW : Ext wo W) => HAP.out k hkl v W ((HXA.out.trans HX.out).trans hW) (hcl.mono hW.sub))
   have HST := hI (greatK_take V kind hkl)
   obtain ⟨G, hG⟩ : ∃ G, G = greatK V kind (l.take k) := ⟨_, rfl⟩
   rw [<- hG] at HST ⊢
   have HST2 := hI (show greatK V kind (l.take (k + 1)) = if (v.kind == kind && claV V l[k]) = true then max G v.amount else G by rw [HST.out, greatS, hvk, hva])
   obtain ⟨Q, hQ⟩ : ∃ Q, Q = claV V l[k] := ⟨_, rfl⟩
   rw [<- hQ] at HREC HST2
   clear hrow hcl hvk hva hQ HAP hG HST
   cases hq : (v.kind == kind)
   ·have HQ := hI hq
    go_wp2_with fail
    go_quiet (fail)
    go_wp2_with fail
    go_roundw
    case rel => exact ⟨k + 1, by rw [HST2.out, HQ.out]; rfl, by go_num, by omega, HX.out.drewN _⟩
    case measure => simp [intOf]; omega
   have HQ := hI hq
   go_upto_region 5 with fail
   refine wp_region_growLG (n := 42) (m := 17) [16] (GrGR wo) GrE (GrP (rgre5R b0 sa sn sc b off n c fa fn fc k kind v Q)) (by kernel_rfl) (by kernel_rfl) (Nat.le_of_ble_eq_true rfl) ?gd ((Ext.refl wo).drew) ?_ ?_ ?_
   case gd =>
    intro i o j b hi ho hg
    have hi' : i = 0 \/ i = 1 \/ i = 2 \/ i = 3 \/ i = 4 \/ i = 5 \/ i = 6 \/ i = 7 \/ i = 8 \/ i = 9 \/ i = 10 \/ i = 11 \/ i = 12 \/ i = 13 \/ i = 14 \/ i = 15 \/ i = 16 := by omega
    rcases hi' with rfl | rfl | rfl | rfl | rfl | rfl | rfl | rfl | rfl | rfl | rfl | rfl | rfl | rfl | rfl | rfl | rfl <;> (cases ho; first | (cases hg; done) | (cases hg; intro v W h; exact h))
   ·intro i k v W W' hi hk hne hout h hE
    have hE : Ext W W' := hE
    have hi' : i = 0 \/ i = 1 \/ i = 2 \/ i = 3 \/ i = 4 \/ i = 5 \/ i = 6 \/ i = 7 \/ i = 8 \/ i = 9 \/ i = 10 \/ i = 11 \/ i = 12 \/ i = 13 \/ i = 14 \/ i = 15 \/ i = 16 := by omega
    clear hi hk hne hout
    rcases hi' with rfl | rfl | rfl | rfl | rfl | rfl | rfl | rfl | rfl | rfl | rfl | rfl | rfl | rfl | rfl | rfl | rfl
    ·exact h
    ·exact h
    ·exact h
    ·exact h
    ·exact h
    ·exact h
    ·exact h
    ·exact h
    ·exact h
    ·exact h
    ·exact h
    ·exact h
    ·exact h
    ·exact h
    ·exact h
    ·exact h
    exact h
   ·intro q op hq ho L vs W hqL hcL hW hd ρ hρ
    have hq' : q = 0 \/ q = 1 \/ q = 2 \/ q = 3 \/ q = 4 \/ q = 5 \/ q = 6 \/ q = 7 \/ q = 8 \/ q = 9 \/ q = 10 \/ q = 11 \/ q = 12 \/ q = 13 \/ q = 14 \/ q = 15 \/ q = 16 := by omega
    clear hq
    have o1 : ρ (.tmp 1) = .slice (some ⟨b, off, none⟩) n c := hρ.out 1 rfl
    have o10 : ρ (.tmp 10) = .int .i64 k := hρ.out 10 rfl
    have i0 := hρ.i 0 17
    have i1 := hρ.i 1 18
    have i2 := hρ.i 2 19
    have i3 := hρ.i 3 20
    have o2 : ρ (.tmp 2) = .int .i64 kind := hρ.out 2 rfl
    have i4 := hρ.i 4 21
    have i5 := hρ.i 5 22
    have i6 := hρ.i 6 23
    have o4 : ρ (.tmp 4) = .pointer (some ⟨b0, 0, none⟩) := hρ.out 4 rfl
    have i10 := hρ.i 10 27
    have i11 := hρ.i 11 28
    have i12 := hρ.i 12 29
    have o3 : ρ (.tmp 3) = .slice fa fn fc := hρ.out 3 rfl
    have i8 := hρ.i 8 25
    have i9 := hρ.i 9 26
    have i13 := hρ.i 13 30
    have i14 := hρ.i 14 31
    have i7 := hρ.i 7 24
    have i15 := hρ.i 15 32
    have hc := hρ.const
    have hfn := hρ.func
    clear hρ
    have HG := hI hW
    have HW := hI (show Ext wo W from hW)
    have HQL := hI hqL
    clear hW hqL hcL
    have kf0 := HW.out.cell s0
    have kf1 := HW.out.cell c0
    have kf2 := HW.out.cell c1
    have kf3 := HW.out.cell c2
    have kf4 := HW.out.cell c3
    have kf5 := HW.out.cell c4
    have kf6 := HW.out.cell c5
    have kf7 := HW.out.cell c6
    have kf8 := HW.out.cell c7
    have kf9 := HW.out.cell c8
    have kf10 := HW.out.cell c9
    by_cases hs15 : q = 15
    ·subst hs15
     clear hq'
     cases ho
     have h8 : vs 8 = _ := hd ⟨8, .data⟩ (by simp) rfl
     rw [h8] at i8
     have h9 : vs 9 = _ := hd ⟨9, .data⟩ (by simp) rfl
     rw [h9] at i9
     have h13 : vs 13 = _ := hd ⟨13, .data⟩ (by simp) rfl
     rw [h13] at i13
     have h14 : vs 14 = _ := hd ⟨14, .data⟩ (by simp) rfl
     rw [h14] at i14
     clear hd
     unfold GivesOp
     go_simp
     refine (HREC.out W HW.out).mono ?_
     rintro r w5 ⟨rfl, hx5⟩
     exact ⟨_, rfl, hx5, HW.out.trans hx5, rfl⟩
    rcases hq' with rfl | rfl | rfl | rfl | rfl | rfl | rfl | rfl | rfl | rfl | rfl | rfl | rfl | rfl | rfl | rfl | rfl
    all_goals first | (exact absurd rfl hs15; done) | skip
    all_goals
     cases ho
     simp [isDataG, GrP, rgre5R] at hd
     clear hs15
     unfold GivesOp
     go_simp
     exact ⟨Ext.refl _, HW.out, rfl⟩
   intro L vs W hLm hW hR
   rw [if_pos (by decide +kernel)]
   have h16 : vs 16 = .bool Q := hR 16 (by simp) (by omega)
   simp only [acts, dstAt, List.range, List.range.loop, List.foldl_cons, List.foldl_nil, h16]
   go_simp
   have hW2 : Ext wo W := hW
   clear hR hW hLm h16
   have HW2 := hI hW2
   have e0 := hW2.cell c9
   clear hW2
   cases Q
   ·go_wp2_with fail
    go_roundw
    case rel => exact ⟨k + 1, by rw [HST2.out, HQ.out]; rfl, by go_num, by omega, HX.out.trans HW2.out⟩
    case measure => simp [intOf]; omega
   go_wp2_with fail
   go_roundw
   case rel => exact ⟨k + 1, by first | (rw [HST2.out, HQ.out, if_pos (show (true && true) = true from rfl)]; done) | (rw [HST2.out, HQ.out, if_pos (show (true && true) = true from rfl), Int.max_def]; congr 1; split <;> split <;> omega), by go_num, by omega, HX.out.trans HW2.out⟩
   case measure => simp [intOf]; omega
  have t1 : decide ((k : Int) < (n : Int)) = false := decide_eq_false (by omega)
  have HQ := hI (show l.take k = l from List.take_of_length_le (by have := HN.out; omega))
  rw [HQ.out]
  go_wp2_with fail
  go_ret
  exact givesE_of rfl (HXA.out.trans HX.out)
end Go.Proofs.YtefjomofjejklaaGreatDoor
