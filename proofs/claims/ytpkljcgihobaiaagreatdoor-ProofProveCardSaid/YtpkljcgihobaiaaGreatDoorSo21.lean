/-
  Texts of the claim, joined: CClas, Chkd, Value.
-/
import Derived.Test.YtpkljcgihobaiaaGreatDoorSo19
import Derived.Test.YtpkljcgihobaiaaGreatDoorSo20
namespace Go.Proofs.YtpkljcgihobaiaaGreatDoor
set_option maxRecDepth 100000
set_option maxHeartbeats 32000000
open Go.RowKit Go.Maps
mutual
theorem okTree_bare : (e : Ex) -> okTree e -> bareE e = true
 | .mk op name words lo hi args, h => by
  rw [okTree] at h
  obtain ⟨hn, ha⟩ := h
  rw [bareE, okTrees_bare args ha, Bool.and_true]
  unfold okNode at hn
  simp only [Ex.op, Ex.args, Ex.name, Ex.words, Ex.lo, Ex.hi] at hn
  by_cases h3 : op = 3
  ·have : args = [] := by
    rcases hn with ⟨h, -⟩ | ⟨h, -⟩ | ⟨-, -, -, -, -, h⟩ | ⟨h, -⟩ | ⟨h, -⟩ | ⟨h, -⟩ | ⟨h, -⟩
    ·omega
    ·omega
    ·exact h
    ·omega
    ·omega
    ·omega
    omega
   simp [this]
  simp [h3]
theorem okTrees_bare : (l : List Ex) -> okTrees l -> bareL l = true
 | [], _ => by rw [bareL]
 | e :: r, h => by
  rw [okTrees] at h
  rw [bareL, okTree_bare e h.1, okTrees_bare r h.2]; rfl
end
theorem ref_bare {e : Ex} (h : refExprB e = true) : bareE e = true := okTree_bare e (ref_okTree h)
theorem claLarge_conds {l : List Cla} {i : Nat} (hi : i < l.length) : claLarge l i = if (condsC l[i]).any (fun x => decide (2000 < expanded l x)) = true then 4 else 0 := by
 unfold claLarge
 rw [getD_cla hi, backsLarge_conds]
 simp only [condsC, List.any_cons, Bool.or_eq_true, decide_eq_true_eq]
theorem defs_own {s : List Attr} {l : List Cla} (h : ∀ j, j < l.length -> claErr s l j = 0) {i : Nat} (hi : i < l.length) (hk : l[i].kind = 1) : defAt l l[i].name = some i := by
 have h0 := h i hi
 rw [<- ccErr_eq s l hi] at h0
 unfold ccErr at h0
 have hnone : findAt (l.take i) l[i].name = none := by
  cases hf : findAt (l.take i) l[i].name with
  | none => rfl
  | some q =>
   rw [hf] at h0
   split at h0
   ·cases h0
   simp at h0
 unfold defAt
 rw [List.findIdx?_eq_some_iff_getElem]
 refine ⟨hi, by simp [hk], fun j hj => ?_⟩
 unfold findAt at hnone
 rw [List.findIdx?_eq_none_iff] at hnone
 have := hnone l[j] (List.mem_iff_getElem.2 ⟨j, by simp; omega, by simp⟩)
 simp only [decide_eq_false_iff_not] at this
 simp [this]
def cclas10R (sa : OA) (sn sc bm b off n c k : Nat) (v : ClV) (E : Int) : Nat -> Value -> World -> Prop
 | 0, u, _ => u = .agg #[.slice sa sn sc]
 | 1, u, _ => u = .map (some bm)
 | 2, u, _ => u = .slice (some ⟨b, off, none⟩) n c
 | 3, u, _ => u = .int .i64 ((k : Nat) : Int)
 | 4, u, _ => u = .slice (some ⟨b, off, none⟩) k c
 | 5, u, _ => u = .agg #[.int .i64 v.kind, .string v.name, .int .i64 v.x.op, .string v.x.name, .slice v.x.aw v.x.nw v.x.cw, .int .i64 v.x.lo, .int .i64 v.x.hi, .slice v.x.aa v.x.na v.x.ca, .slice v.au v.nu v.cu, .int .i64 v.amount]
 | 6, u, _ => u = .int .i64 E
 | _, u, _ => u = .int .i64 E
def CcL2 (l : List Cla) (n : Nat) (w3 : World) (t : Value) (wr : World) : Prop := ∃ k : Nat, t = .int .i64 ((k : Nat) : Int) /\ k <= n /\ (∀ j, j < k -> claLarge l j = 0) /\ Ext w3 wr
theorem cClauses_calls (s : List Attr) (l : List Cla) (sv : Value) (a : OA) (n c : Nat) (w : World) (hs : IsSchema w s sv) (hf : ∀ x ∈ s, x.fits) (hsl : s.length <= 1000000000000000) (hl : IsClas w l a n c) (hn : n <= 1000000000000000) (hok : ∀ x ∈ l, x.fit) (ho : HasOps w) :
  Calls Tryz.prog 50 #[sv, .slice a n c] w (GivesE (clsV (clausesErr s l)) w) := by
 obtain ⟨sa, sn, sc, rfl, hsn⟩ := hs.slice
 have HL := hI hl
 have HN := hI hl.len
 have HOK := hI hok
 have hnc : n <= c := by obtain ⟨vs, h1, _⟩ := hl; exact h1.2.1
 have HVA := hI (fun (W : World) (hW : Ext w W) => sValidate_calls s (.agg #[.slice sa sn sc]) W (hs.ext hW) hf hsl)
 have HCC := hI (fun (hz : schemaErr s = 0) (bm nm : Nat) (ba : OA) (bn bc i : Nat) (hi : i < l.length) (v : ClV) (W : World) (hW : Ext w W) (hd : DefsAt W l bm nm) (hb : IsClas W (l.take i) ba bn bc) (hbn : bn <= 1000000000000000) (hc : IsCla W l[i] v) => cclause_calls s hz l (l.take i) hf hsl bm nm ba bn bc l[i] v (.agg #[.slice sa sn sc]) W (hok _ (List.getElem_mem hi)) (ho.ext hW) (hs.ext hW) hd hb hbn hc)
 obtain ⟨R, hR⟩ : ∃ R, R = clausesErr s l := ⟨_, rfl⟩
 rw [<- hR]
 have HR := hI hR
 obtain ⟨wa, hwa⟩ : ∃ wa, wa = w.alloc (.cells #[.slice sa sn sc] 31) := ⟨_, rfl⟩
 have hxa : Ext w wa := by rw [hwa]; exact (Ext.refl _).alloc _
 have hb : wa.heap[w.heap.size]? = some (.cells #[.slice sa sn sc] 31 (0, 0)) := by rw [hwa]; exact alloc_new w _
 have HXA := hI hxa
 have HBA := hI hb
 obtain ⟨d0, df⟩ := blk1 hb
 have hlta := blk_lt hb
 clear hs hl hf hok hR hsn hxa hb ho
 go_enter Tryz.func50, Tryz.ntmps50
 go_upto_region 1 with fail
 rw [<- hwa]
 clear hwa
 go_wp2_with fail
 refine (HVA.out wa HXA.out).mono ?_
 rintro r w1 ⟨rfl, hx1⟩
 have HX1 := hI (HXA.out.trans hx1)
 have HB1 := hI (hx1.blk HBA.out)
 clear hx1 d0 df HVA hlta
 by_cases hse : schemaErr s = 0
 case neg =>
  have tz : (schemaErr s != 0) = true := by simp [hse]
  have HQ := hI (HR.out.trans (cls_bad hse))
  go_wp2_with fail
  go_ret2
  exact givesE_cls HQ.out HX1.out
 have tz : (schemaErr s != 0) = false := by simp [hse]
 have HSE := hI hse
 clear hse
 by_cases hm : 100 < n
 ·have tm : decide ((100 : Int) < (n : Int)) = true := decide_eq_true (by omega)
  have HQ := hI (HR.out.trans (cls_many HSE.out (by have := HN.out; omega)))
  go_wp2_with fail
  go_ret2
  exact givesE_cls HQ.out HX1.out
 have tm : decide ((100 : Int) < (n : Int)) = false := decide_eq_false (by omega)
 have HM := hI (show ¬ 100 < l.length by have := HN.out; omega)
 go_wp2_with fail
 refine (definitions_calls l a n c w1 (HL.out.ext HX1.out) (by omega) fun x hx => (HOK.out x hx).1).mono ?_
 rintro r w2 ⟨bm, rfl, hd2, hx2⟩
 have HD2 := hI hd2
 have HX2 := hI (HX1.out.trans hx2)
 have HB2 := hI (hx2.blk HB1.out)
 clear hd2 hx2
 go_wp2_with fail
 go_loopw [30] (fun t wr => ∃ k : Nat, t = .int .i64 ((k : Nat) : Int) /\ k <= n /\ (∀ j, j < k -> claErr s l j = 0) /\ Ext w2 wr) (fun t _ => n - (intOf t).toNat)
 case atStart => exact ⟨0, rfl, by omega, fun j h => by omega, Ext.refl _⟩
 case round =>
  obtain ⟨k, rfl, hk, hno, hxr⟩ := hrel
  have HNO := hI hno
  have HXR := hI hxr
  clear hno hxr
  by_cases hkn : k < n
  ·have hkl : k < l.length := by have := HN.out; omega
   have t1 : decide ((k : Int) < (n : Int)) = true := decide_eq_true (by omega)
   obtain ⟨b, off, v, rfl, hcla, hrow⟩ := (HL.out.ext (HX2.out.trans HXR.out)).at hkl
   obtain ⟨c0, c1, c2, c3, c4, c5, c6, c7, c8, c9⟩ := hrow.ten
   have ti0 : (0 : Int) <= (k : Int) := by omega
   have ti1 : (k : Int) <= (n : Int) := by omega
   have hkc : k <= c := by omega
   have HCE := hI (ccErr_eq s l hkl)
   have HHIT := hI (fun (e : Int) (h : claErr s l k = e) (h0 : e ≠ 0) => HR.out.trans (by rw [cls_hit HSE.out HM.out hkl HNO.out (by rw [h]; exact h0), h]))
   obtain ⟨y, hy⟩ : ∃ y, y = wr.heap.size := ⟨_, rfl⟩
   obtain ⟨wx, hwx⟩ : ∃ wx, wx = wr.alloc (.cells #[.int .i64 v.kind, .string v.name, .int .i64 v.x.op, .string v.x.name, .slice v.x.aw v.x.nw v.x.cw, .int .i64 v.x.lo, .int .i64 v.x.hi, .slice v.x.aa v.x.na v.x.ca, .slice v.au v.nu v.cu, .int .i64 v.amount] 67) := ⟨_, rfl⟩
   have hxx : Ext wr wx := by rw [hwx]; exact (Ext.refl _).alloc _
   have hby : wx.heap[y]? = some (.cells #[.int .i64 v.kind, .string v.name, .int .i64 v.x.op, .string v.x.name, .slice v.x.aw v.x.nw v.x.cw, .int .i64 v.x.lo, .int .i64 v.x.hi, .slice v.x.aa v.x.na v.x.ca, .slice v.au v.nu v.cu, .int .i64 v.amount] 67 (0, 0)) := by rw [hwx, hy]; exact alloc_new wr _
   have HXX := hI (HXR.out.trans hxx)
   have HCF := hI (fun (W : World) (hW : Ext wx W) => HCC.out HSE.out bm n (some ⟨b, off, none⟩) k c k hkl v W ((HX2.out.trans HXX.out).trans hW) (HD2.out.ext (HXX.out.trans hW)) ((HL.out.ext ((HX2.out.trans HXX.out).trans hW)).take (by omega)) (by omega) (hcla.mono (hxx.trans hW).sub))
   rw [HCE.out] at HCF
   obtain ⟨E, hE⟩ : ∃ E, E = claErr s l k := ⟨_, rfl⟩
   rw [<- hE] at HCF
   have HE := hI hE
   clear hcla hrow hE HCE
   go_upto_region 10 with fail
   rw [<- hwx, <- hy]
   clear hwx hy c0 c1 c2 c3 c4 c5 c6 c7 c8 c9
   obtain ⟨d0, df⟩ := blk1 ((HXX.out).blk HB2.out)
   obtain ⟨b0, b1, b2, b3, b4, b5, b6, b7, b8, b9, bf⟩ := blk10r hby
   clear hxx hby
   refine wp_region_grow (m := 8) [7] (GrG wx) GrE (GrP (cclas10R sa sn sc bm b off n c k v E)) (by kernel_rfl) (by kernel_rfl) ((Ext.refl wx).drew) ?_ ?_ ?_
   ·intro i k v W W' hi hk hne hout h hE
    have hE : Ext W W' := hE
    have hi' := ltc8 hi
    clear hi hk hne hout
    rcases hi' with rfl | rfl | rfl | rfl | rfl | rfl | rfl | rfl
    ·exact h
    ·exact h
    ·exact h
    ·exact h
    ·exact h
    ·exact h
    ·exact h
    exact h
   ·intro q op hq ho vs W hW hd ρ hρ
    have hq' := ltc8 hq
    clear hq
    have o2 : ρ (.tmp 2) = .pointer (some ⟨w.heap.size, 0, none⟩) := hρ.out 2 rfl
    have o7 : ρ (.tmp 7) = .map (some bm) := hρ.out 7 rfl
    have o1 : ρ (.tmp 1) = .slice (some ⟨b, off, none⟩) n c := hρ.out 1 rfl
    have o8 : ρ (.tmp 8) = .int .i64 ((k : Nat) : Int) := hρ.out 8 rfl
    have i2 := hρ.i 2 37
    have i3 := hρ.i 3 38
    have o9 : ρ (.tmp 9) = .pointer (some ⟨y, 0, none⟩) := hρ.out 9 rfl
    have i0 := hρ.i 0 35
    have i1 := hρ.i 1 36
    have i4 := hρ.i 4 39
    have i5 := hρ.i 5 40
    have i6 := hρ.i 6 41
    have hc := hρ.const
    have hfn := hρ.func
    clear hρ
    have HW := hI (show Ext wx W from hW)
    rcases hq' with rfl | rfl | rfl | rfl | rfl | rfl | rfl | rfl
    ·cases ho
     clear hd
     have g0 := HW.out.cell d0
     unfold GivesOp
     go_simp
     exact ⟨Ext.refl W, rfl⟩
    ·cases ho
     clear hd
     unfold GivesOp
     go_simp
     exact ⟨Ext.refl W, rfl⟩
    ·cases ho
     clear hd
     unfold GivesOp
     go_simp
     exact ⟨Ext.refl W, rfl⟩
    ·cases ho
     clear hd
     unfold GivesOp
     go_simp
     exact ⟨Ext.refl W, rfl⟩
    ·cases ho
     have h2 : vs 2 = _ := hd ⟨2, .data⟩ (by simp) rfl
     rw [h2] at i2
     have h3 : vs 3 = _ := hd ⟨3, .data⟩ (by simp) rfl
     rw [h3] at i3
     clear hd
     unfold GivesOp
     go_simp
     exact ⟨Ext.refl W, rfl⟩
    ·cases ho
     clear hd
     have g0 := HW.out.cell b0
     have g1 := HW.out.cell b1
     have g2 := HW.out.cell b2
     have g3 := HW.out.cell b3
     have g4 := HW.out.cell b4
     have g5 := HW.out.cell b5
     have g6 := HW.out.cell b6
     have g7 := HW.out.cell b7
     have g8 := HW.out.cell b8
     have g9 := HW.out.cell b9
     unfold GivesOp
     go_simp
     exact ⟨Ext.refl W, rfl⟩
    ·cases ho
     have h0 : vs 0 = _ := hd ⟨0, .data⟩ (by simp) rfl
     rw [h0] at i0
     have h1 : vs 1 = _ := hd ⟨1, .data⟩ (by simp) rfl
     rw [h1] at i1
     have h4 : vs 4 = _ := hd ⟨4, .data⟩ (by simp) rfl
     rw [h4] at i4
     have h5 : vs 5 = _ := hd ⟨5, .data⟩ (by simp) rfl
     rw [h5] at i5
     clear hd
     unfold GivesOp
     go_simp
     refine (HCF.out W HW.out).mono ?_
     rintro r5 w5 ⟨rfl, hx5⟩
     exact ⟨_, rfl, hx5, HW.out.trans hx5, rfl⟩
    cases ho
    have h6 : vs 6 = _ := hd ⟨6, .data⟩ (by simp) rfl
    rw [h6] at i6
    clear hd
    unfold GivesOp
    go_simp
    exact ⟨Ext.refl W, rfl⟩
   intro vs W hW hR
   rw [if_pos (by decide +kernel)]
   have h7 : vs 7 = .int .i64 E := hR 7 (by simp) (by omega)
   simp only [acts, dstAt, List.range, List.range.loop, List.foldl_cons, List.foldl_nil, h7]
   go_simp
   have hW2 : Ext wx W := hW
   clear hR hW h7
   have HX10 := hI (HXX.out.trans hW2)
   clear hW2 d0 df b0 b1 b2 b3 b4 b5 b6 b7 b8 b9 bf HCF
   by_cases hz : E = 0
   ·have tz0 : (E != 0) = false := by simp [hz]
    have HZ := hI (HE.out.symm.trans hz)
    clear hz
    go_wp2_with fail
    go_roundw
    case rel =>
     refine ⟨k + 1, by go_num, by omega, fun j hj => ?_, HX10.out⟩
     by_cases e0 : j = k
     ·subst e0; exact HZ.out
     exact HNO.out j (by omega)
    case measure => simp [intOf]; omega
   have tz0 : (E != 0) = true := by simp [hz]
   have HQ := hI (HHIT.out E HE.out.symm hz)
   clear hz
   go_wp2_with fail
   go_ret2
   exact givesE_cls HQ.out (HX2.out.trans HX10.out)
  have t1 : decide ((k : Int) < (n : Int)) = false := decide_eq_false (by omega)
  have HNA := hI (show ∀ j, j < l.length -> claErr s l j = 0 from fun j hj => HNO.out j (by have := HN.out; omega))
  have HSZ := hI (show ∀ x ∈ l, x.name.size <= 1000000000000000 /\ x.cond.size <= 100000 /\ x.cond.fits /\ (∀ y ∈ condsC x, refExprB y = true) /\ wbN x.unl <= 40 by
   intro x hx
   obtain ⟨j, hj, rfl⟩ := List.mem_iff_getElem.1 hx
   have hv := claErr_valid (HNA.out j hj) hj
   have hf := HOK.out _ hx
   exact ⟨hf.1, refExprB_size (clauseB_cond hv), hf.2.1, (clause_refs hv).1, (clause_refs hv).2⟩)
  have HXW := hI (HX2.out.trans HXR.out)
  clear HNO
  go_wp2_with fail
  refine (order_calls (l.map Cla.cl) a n c wr (HL.out.ext HXW.out).cls (by omega) (by
   intro x hx
   obtain ⟨c', hc', rfl⟩ := List.mem_map.1 hx
   have := HSZ.out c' hc'
   exact ⟨this.2.1, this.2.2.1, this.1⟩)).mono ?_
  rw [show (l.map Cla.cl).map Cl.dfn = l.map Cla.dfn by rw [List.map_map]; rfl]
  rintro r w3 ⟨hx3, ⟨o, oa, oc, ht, rfl, hoi⟩ | ⟨o, q1, q2, rfl⟩⟩
  ·have HT := hI ht
   have HOI := hI hoi
   have HX3 := hI (HXW.out.trans hx3)
   have HSO := hI (show Sorts (l.map Cla.dfn) from ⟨o, ht⟩)
   have hol : o.length <= 1000 := by have h1 := ht.len; have := HN.out; simp at h1; omega
   have HSE2 := hI (fun (x : Ex) (hx : bareE x = true) => sizes_exp ht (fun i hi => by
    have hil : i < l.length := by simpa using ht.lt hi
    rw [getD_cla hil]
    exact defs_own HNA.out hil (by have := (ht.all i).1 hi; rw [isDef_dfn hil] at this; simpa using this)) (fun i hi => by
    have hil : i < l.length := by simpa using ht.lt hi
    rw [getD_cla hil]
    exact ref_bare ((HSZ.out _ (List.getElem_mem hil)).2.2.2.1 _ (by simp [condsC]))) x hx)
   clear ht hoi hx3
   go_wp2_with fail
   refine (sizes_calls l a n c o oa oc w3 (HL.out.ext HX3.out) (by omega) HOI.out (by omega) (fun i hi => by simpa using HT.out.lt hi) (fun x hx => by have := HSZ.out x hx; exact ⟨this.1, by omega, this.2.2.1⟩)).mono ?_
   rintro r w4 ⟨bs, rfl, hm4, hx4⟩
   have HM4 := hI hm4
   have HX4 := hI (HX3.out.trans hx4)
   clear hm4 hx4
   go_wp2_with fail
   go_loopw [60] (CcL2 l n w4) (fun t _ => n - (intOf t).toNat)
   case atStart => exact ⟨0, rfl, by omega, fun j h => by omega, Ext.refl _⟩
   case round =>
    obtain ⟨k2, rfl, hk2, hno, hxr⟩ := hrel
    obtain ⟨wo, rfl⟩ : ∃ wo : World, wo = wr := ⟨_, rfl⟩
    have HNO := hI hno
    have HXR2 := hI hxr
    clear hno hxr
    by_cases hkn2 : k2 < n
    ·have hkl : k2 < l.length := by have := HN.out; omega
     have t2 : decide ((k2 : Int) < (n : Int)) = true := decide_eq_true (by omega)
     obtain ⟨b, off, v, rfl, hcla, hrow⟩ := (HL.out.ext (HX4.out.trans HXR2.out)).at hkl
     obtain ⟨c0, c1, c2, c3, c4, c5, c6, c7, c8, c9⟩ := hrow.ten
     have HFT := hI (condsC_fit (HOK.out _ (List.getElem_mem hkl)))
     have HRF := hI (HSZ.out _ (List.getElem_mem hkl)).2.2.2.1
     have hwb := (HSZ.out _ (List.getElem_mem hkl)).2.2.2.2
     have HLG := hI (claLarge_conds hkl)
     have HHIT := hI (fun (h : claLarge l k2 = 4) => HR.out.trans (cls_large HSE.out HM.out HNA.out HSO.out hkl HNO.out h))
     have HCN := hI (fun (W : World) (hW : Ext wo W) => conditions_calls l[k2] v W (hcla.mono hW.sub) (by omega))
     have HCL := hI (condsC_len l[k2])
     clear hcla hrow
     go_wp2_with fail
     refine (HCN.out _ ((Ext.refl wo).alloc _)).mono ?_
     rintro r w6 ⟨ea, en, ek, rfl, hen, henk, hed, hx6⟩
     have HX6 := hI ((HXR2.out.alloc _).trans hx6)
     have HED := hI hed
     have HEN := hI hen
     have hen2 : en <= 41 := by have := HCL.out; omega
     clear hx6 hed hen c0 c1 c2 c3 c4 c5 c6 c7 c8 c9 HCN
     go_wp2_with fail
     go_loopw [68] (fun t wr => ∃ q : Nat, t = .int .i64 ((q : Nat) : Int) /\ q <= en /\ (∀ j (h : j < (condsC l[k2]).length), j < q -> ¬ 2000 < expanded l (condsC l[k2])[j]) /\ Ext w6 wr) (fun t _ => en - (intOf t).toNat)
     case atStart => exact ⟨0, rfl, by omega, fun j _ h => by omega, Ext.refl _⟩
     case round =>
      obtain ⟨q, rfl, hq, hall, hxq⟩ := hrel
      have HALL := hI hall
      have HXQ := hI hxq
      clear hall hxq
      by_cases hqn : q < en
      ·have hql : q < (condsC l[k2]).length := by have := HEN.out; omega
       have t3 : decide ((q : Int) < (en : Int)) = true := decide_eq_true (by omega)
       obtain ⟨b', off', rfl, aw1, nw1, cw1, aa1, na1, ca1, h0, h1, h2, h3, h4, h5, h6⟩ := ExsD.at (condsC l[k2]) _ (ExsD.ext HXQ.out (condsC l[k2]) _ HED.out) q hql
       have hmem := List.getElem_mem hql
       have hxs := refExprB_size (HRF.out _ hmem)
       have HCX := hI (fun (W : World) (hW : Ext wr W) => cexp_calls (sizesF l o) (sizesF_le l o) bs o.length 1000000000000000 (condsC l[k2])[q] _ W (by omega) (by omega) (HFT.out _ hmem).1 (HM4.out.ext ((HX6.out.trans HXQ.out).trans hW)) (h6.ext hW))
       have hblt := block_lt h0
       simp only at hblt
       rw [HSE2.out _ (ref_bare (HRF.out _ hmem))] at HCX
       unfold exV at HCX
       obtain ⟨E, hE⟩ : ∃ E, E = expanded l (condsC l[k2])[q] := ⟨_, rfl⟩
       rw [<- hE] at HCX
       have hel : E <= 2001 := by rw [hE]; exact expF_le l _ _
       have HE := hI hE
       clear h6 hE
       go_wp2_with fail
       refine (HCX.out _ ((Ext.refl wr).alloc _)).mono ?_
       rintro r w7 ⟨rfl, hx7⟩
       have HX7 := hI ((HXQ.out.alloc _).trans hx7)
       clear hx7 h0 h1 h2 h3 h4 h5 HCX
       by_cases hlg : 2000 < E
       ·have t4 : decide ((2000 : Int) < (E : Int)) = true := decide_eq_true (by omega)
        have HQ := hI (HHIT.out (by
         rw [HLG.out, if_pos]
         rw [List.any_eq_true]
         exact ⟨_, hmem, by rw [<- HE.out]; simpa using hlg⟩))
        clear hmem
        go_wp2_with fail
        go_ret2
        exact givesE_cls HQ.out (HX4.out.trans (HX6.out.trans HX7.out))
       have t4 : decide ((2000 : Int) < (E : Int)) = false := decide_eq_false (by omega)
       have HNL := hI (show ¬ 2000 < expanded l (condsC l[k2])[q] by rw [<- HE.out]; exact hlg)
       clear hmem hlg
       go_wp2_with fail
       go_roundw
       case rel =>
        refine ⟨q + 1, by go_num, by omega, fun j hj hjk => ?_, HX7.out⟩
        by_cases e0 : j = q
        ·subst e0; exact HNL.out
        exact HALL.out j hj (by omega)
       case measure => simp [intOf]; omega
      have t3 : decide ((q : Int) < (en : Int)) = false := decide_eq_false (by omega)
      have HZ := hI (show claLarge l k2 = 0 by
       rw [HLG.out, if_neg]
       rw [Bool.not_eq_true, List.any_eq_false]
       intro x hx
       obtain ⟨j, hj, rfl⟩ := List.mem_iff_getElem.1 hx
       simpa using HALL.out j hj (by have := HEN.out; omega))
      go_wp2_with fail
      go_roundw
      case rel =>
       refine ⟨k2 + 1, by go_num, by omega, fun j hj => ?_, HX6.out.trans HXQ.out⟩
       by_cases e0 : j = k2
       ·subst e0; exact HZ.out
       exact HNO.out j (by omega)
      case measure => simp [intOf]; omega
    have t2 : decide ((k2 : Int) < (n : Int)) = false := decide_eq_false (by omega)
    have HQ := hI (HR.out.trans (cls_good HSE.out HM.out HNA.out HSO.out fun j hj => HNO.out j (by have := HN.out; omega)))
    go_wp2_with fail
    go_ret2
    exact givesE_cls HQ.out (HX4.out.trans HXR2.out)
  have HQ := hI (HR.out.trans (cls_cycle HSE.out HM.out HNA.out (q1.none q2)))
  have HX3 := hI (HXW.out.trans hx3)
  clear hx3 q1 q2
  go_wp2_with fail
  go_ret2
  exact givesE_cls HQ.out HX3.out
def put3 (w : World) (B : Nat) (v0 v1 v2 : Value) : World := ((w.setCell ⟨B, 0, none⟩ v0).setCell ⟨B, 1, none⟩ v1).setCell ⟨B, 2, none⟩ v2
theorem put3_blk {w : World} {B : Nat} {u0 u1 u2 : Value} {t : TypeId} (h : w.heap[B]? = some (.cells #[u0, u1, u2] t (0, 0))) (v0 v1 v2 : Value) : (put3 w B v0 v1 v2).heap[B]? = some (.cells #[v0, v1, v2] t (0, 0)) := by
 unfold put3
 have h0 := heap_setCell_same w B 0 _ _ v0 h
 have h1 := heap_setCell_same _ B 1 _ _ v1 h0
 have h2 := heap_setCell_same _ B 2 _ _ v2 h1
 rw [h2]; rfl
theorem put3_chg (w : World) (B : Nat) (v0 v1 v2 : Value) {N : ZN} (h : B ∈ N) : Chg N w (put3 w B v0 v1 v2) := by
 unfold put3
 exact (((Chg.refl _ _).setCell (Or.inl h) _).setCell (Or.inl h) _).setCell (Or.inl h) _
def lossZero : Value := .agg #[.slice none 0 0, .map none, .slice none 0 0]
def CheckedQ (s : List Attr) (l : List Cla) (e : Ex) (f : ZI) (n : Nat) (w : World) (r : Ending) (w' : World) : Prop := Ext w w' /\ ((evalErr s l e f ≠ 0 /\ r = .returned (.tuple #[lossZero, .int .i64 (evalErr s l e f)])) \/ (evalErr s l e f = 0 /\ ∃ lv : LossV, r = .returned (.tuple #[lv.val, .int .i64 0]) /\ IsLoss w' s l f lv n))
theorem Chk.fresh {s : List Attr} {l : List Cla} (h : Chk s l) {k : Nat} (hk : k < l.length) : defAt (l.take k) l[k].name = none := by
 cases hd : defAt (l.take k) l[k].name with
 | none => rfl
 | some d =>
  obtain ⟨h1, _, h3⟩ := defAt_atK hd
  have hdk : d < k := by simp at h1; omega
  have := h.uniq k d hk hdk
  rw [getD_take hdk] at h3
  rw [h3, getD_clK hk] at this
  exact absurd rfl this
theorem checked_calls (s : List Attr) (l : List Cla) (e : Ex) (f : ZI) (ev sv : Value) (a : OA) (n c : Nat) (fa : OA) (fn fc : Nat) (w : World) (hs : IsSchema w s sv) (hf : ∀ x ∈ s, x.fits) (hsl : s.length <= 1000000000000000) (hl : IsClas w l a n c) (hn : n <= 1000000) (hok : ∀ x ∈ l, x.fit) (he : IsEx w e ev) (hfew : e.few) (hfit : e.fits) (hi : IsIntF w f fa fn) (hfn : fn <= 1000000000000000) (ho : HasOps w) :
  Calls Tryz.prog 31 #[sv, .slice a n c, ev, .slice fa fn fc] w (CheckedQ s l e f n w) := by
 obtain ⟨sa, sn, sc, rfl, hsn⟩ := hs.slice
 have HCL := hI (fun W (hW : Ext w W) => cClauses_calls s l _ a n c W (hs.ext hW) hf hsl (hl.ext hW) (by omega) hok (ho.ext hW))
 have HEX := hI (fun W (hW : Ext w W) => checkExpr_calls s l a n c e ev _ W hf hsl (hl.ext hW) hn (fun x hx => (hok x hx).1) hfew hfit (ho.ext hW) (hs.ext hW) (he.ext hW))
 have HXP := hI (fun (h1 : (clausesErr s l).2 = 0) (h2 : exprErr s l e = 0) W (hW : Ext w W) => cExpanded_calls l a n c e ev W (hl.ext hW) (he.ext hW) ⟨by have := ref_size (exprErr_ref h2); omega, hfit, ref_bare (exprErr_ref h2)⟩ (by rw [hl.len]; have := (chk_of h1).len; omega) (fun x hx => ⟨(hok x hx).1, by have := (chk_of h1).size x hx; omega, (hok x hx).2.1, ref_bare ((chk_of h1).good x hx).2.2.1⟩))
 have HFC := hI (fun W (hW : Ext w W) => sValid_calls s _ f fa fn fc W (hs.ext hW) hf hsl (hi.ext hW) hfn)
 have HCK := hI (fun (h1 : (clausesErr s l).2 = 0) => chk_of h1)
 have HL := hI hl
 have HS := hI hs
 have HI := hI hi
 have HSZ := hI (fun x hx => (hok x hx).1)
 have HN := hI hl.len
 obtain ⟨aw, nw, cw, aa, na, ca, rfl, -⟩ := he.parts
 obtain ⟨R, hR⟩ : ∃ R, R = evalErr s l e f := ⟨_, rfl⟩
 unfold CheckedQ
 rw [<- hR]
 unfold evalErr at hR
 obtain ⟨⟨i0, E1⟩, hE1⟩ : ∃ E : Nat × Int, E = clausesErr s l := ⟨_, rfl⟩
 rw [<- hE1] at HCL hR
 have HXP1 := hI (fun (h1 : E1 = 0) => HXP.out (by rw [<- hE1]; exact h1))
 have HCK1 := hI (fun (h1 : E1 = 0) => HCK.out (by rw [<- hE1]; exact h1))
 clear HXP HCK
 obtain ⟨E2, hE2⟩ : ∃ E, E = exprErr s l e := ⟨_, rfl⟩
 rw [<- hE2] at HEX hR
 have HXP := hI (fun (h1 : E1 = 0) (h2 : E2 = 0) => HXP1.out h1 (by rw [<- hE2]; exact h2))
 clear HXP1
 obtain ⟨X, hX⟩ : ∃ X, X = expanded l e := ⟨_, rfl⟩
 rw [<- hX] at HXP hR
 obtain ⟨B, hB⟩ : ∃ B, B = factsB s f := ⟨_, rfl⟩
 rw [<- hB] at HFC hR
 have HR := hI hR
 clear hs hf hsl hl hok he hfew hfit hi hsn hR hE1 hE2 hX hB ho
 unfold exV at *
 obtain ⟨wa, hwa⟩ : ∃ wa, wa = ((w.alloc (.cells #[.slice sa sn sc] 31)).alloc (.cells #[.int .i64 e.op, .string e.name, .slice aw nw cw, .int .i64 e.lo, .int .i64 e.hi, .slice aa na ca] 26)).alloc (.cells #[.slice none 0 0, .map none, .slice none 0 0] 71) := ⟨_, rfl⟩
 have hxa : Ext w wa := by rw [hwa]; exact (((Ext.refl _).alloc _).alloc _).alloc _
 have hb0 : wa.heap[w.heap.size]? = some (.cells #[.slice sa sn sc] 31 (0, 0)) := by rw [hwa]; exact blk_alloc (blk_alloc (alloc_new w _))
 have hb1 : wa.heap[w.heap.size + 1]? = some (.cells #[.int .i64 e.op, .string e.name, .slice aw nw cw, .int .i64 e.lo, .int .i64 e.hi, .slice aa na ca] 26 (0, 0)) := by rw [hwa]; exact blk_alloc (alloc_atR (by simp))
 have hb2 : wa.heap[w.heap.size + 1 + 1]? = some (.cells #[.slice none 0 0, .map none, .slice none 0 0] 71 (0, 0)) := by rw [hwa]; exact alloc_atR (by simp)
 have HXA := hI hxa
 have HB0 := hI hb0
 have HB1 := hI hb1
 have HB2 := hI hb2
 obtain ⟨e0, ef⟩ := blk1 hb0
 clear hxa hb0 hb1 hb2
 unfold clsV at HCL
 go_enter Tryz.func31, Tryz.ntmps31
 go_upto_region 1 with fail
 rw [<- hwa]
 clear hwa
 go_wp2_with fail
 refine (HCL.out wa HXA.out).mono ?_
 rintro r w1 ⟨rfl, hx1⟩
 have HX1 := hI (HXA.out.trans hx1)
 have HB01 := hI (hx1.blk HB0.out)
 have HB11 := hI (hx1.blk HB1.out)
 have HB21 := hI (hx1.blk HB2.out)
 clear hx1 e0 ef HCL HB0 HB1 HB2
 by_cases h1 : E1 = 0
 case neg =>
  have t1 : (E1 != 0) = true := by simp [h1]
  have HQ := hI (show R = E1 by rw [HR.out, if_pos h1])
  have HNZ := hI h1
  clear h1
  obtain ⟨r0, r1, r2, rf⟩ := blk3 HB21.out
  go_wp2_with fail
  obtain ⟨wz, hwz⟩ : ∃ wz, wz = put3 w1 (w.heap.size + 1 + 1) (.slice none 0 0) (.map none) (.slice none 0 0) := ⟨_, rfl⟩
  have HZ := hI (show wz.heap[w.heap.size + 1 + 1]? = some (.cells #[.slice none 0 0, .map none, .slice none 0 0] 71 (0, 0)) by rw [hwz]; exact put3_blk HB21.out _ _ _)
  have HXZ := hI (show Ext w wz by rw [hwz]; exact (put3_chg w1 (w.heap.size + 1 + 1) (.slice none 0 0) (.map none) (.slice none 0 0) (N := [w.heap.size + 1 + 1]) (by simp)).ext HX1.out (fun y hy => by simp only [List.mem_singleton] at hy; omega))
  unfold put3 at hwz
  rw [<- hwz]
  clear hwz
  obtain ⟨z0, z1, z2, zf⟩ := blk3 HZ.out
  refine bodyPost_ret (v := .tuple #[lossZero, .int .i64 E1]) (by simp [results, Tryz.results31, go_sem, lossZero, z0, z1, z2]) rfl ?_
  exact ⟨HXZ.out, Or.inl ⟨by rw [HQ.out]; exact HNZ.out, by rw [HQ.out]⟩⟩
 have t1 : (E1 != 0) = false := by simp [h1]
 have HR2 := hI (show R = if E2 ≠ 0 then E2 else if 2000 < X then 4 else if B = false then 16 else 0 by rw [HR.out, if_neg (by simpa using h1)])
 have HXP1 := hI (HXP.out h1)
 have HCK := hI (HCK1.out h1)
 clear h1 HR HXP HCK1
 obtain ⟨e0, ef⟩ := blk1 HB01.out
 obtain ⟨f0, f1, f2, f3, f4, f5, ff⟩ := blk6 HB11.out
 go_wp2_with fail
 refine (HEX.out w1 HX1.out).mono ?_
 rintro r w2 ⟨rfl, hx2⟩
 have HX2 := hI (HX1.out.trans hx2)
 have HB02 := hI (hx2.blk HB01.out)
 have HB12 := hI (hx2.blk HB11.out)
 have HB22 := hI (hx2.blk HB21.out)
 clear hx2 e0 ef f0 f1 f2 f3 f4 f5 ff HEX
 by_cases h2 : E2 = 0
 case neg =>
  have t2 : (E2 != 0) = true := by simp [h2]
  have HQ := hI (show R = E2 by rw [HR2.out, if_pos h2])
  have HNZ := hI h2
  clear h2
  obtain ⟨r0, r1, r2, rf⟩ := blk3 HB22.out
  go_wp2_with fail
  obtain ⟨wz, hwz⟩ : ∃ wz, wz = put3 w2 (w.heap.size + 1 + 1) (.slice none 0 0) (.map none) (.slice none 0 0) := ⟨_, rfl⟩
  have HZ := hI (show wz.heap[w.heap.size + 1 + 1]? = some (.cells #[.slice none 0 0, .map none, .slice none 0 0] 71 (0, 0)) by rw [hwz]; exact put3_blk HB22.out _ _ _)
  have HXZ := hI (show Ext w wz by rw [hwz]; exact (put3_chg w2 (w.heap.size + 1 + 1) (.slice none 0 0) (.map none) (.slice none 0 0) (N := [w.heap.size + 1 + 1]) (by simp)).ext HX2.out (fun y hy => by simp only [List.mem_singleton] at hy; omega))
  unfold put3 at hwz
  rw [<- hwz]
  clear hwz
  obtain ⟨z0, z1, z2, zf⟩ := blk3 HZ.out
  refine bodyPost_ret (v := .tuple #[lossZero, .int .i64 E2]) (by simp [results, Tryz.results31, go_sem, lossZero, z0, z1, z2]) rfl ?_
  exact ⟨HXZ.out, Or.inl ⟨by rw [HQ.out]; exact HNZ.out, by rw [HQ.out]⟩⟩
 have t2 : (E2 != 0) = false := by simp [h2]
 have HR3 := hI (show R = if 2000 < X then 4 else if B = false then 16 else 0 by rw [HR2.out, if_neg (by simpa using h2)])
 have HXP2 := hI (HXP1.out h2)
 clear h2 HR2 HXP1
 obtain ⟨f0, f1, f2, f3, f4, f5, ff⟩ := blk6 HB12.out
 go_wp2_with fail
 refine (HXP2.out w2 HX2.out).mono ?_
 rintro r w3 ⟨rfl, hx3⟩
 have HX3 := hI (HX2.out.trans hx3)
 have HB03 := hI (hx3.blk HB02.out)
 have HB23 := hI (hx3.blk HB22.out)
 clear hx3 f0 f1 f2 f3 f4 f5 ff HXP2
 by_cases h3 : 2000 < X
 case pos =>
  have t3 : decide ((2000 : Int) < (X : Int)) = true := decide_eq_true (by omega)
  have HQ := hI (show R = 4 by rw [HR3.out, if_pos h3])
  clear h3
  obtain ⟨r0, r1, r2, rf⟩ := blk3 HB23.out
  go_wp2_with fail
  obtain ⟨wz, hwz⟩ : ∃ wz, wz = put3 w3 (w.heap.size + 1 + 1) (.slice none 0 0) (.map none) (.slice none 0 0) := ⟨_, rfl⟩
  have HZ := hI (show wz.heap[w.heap.size + 1 + 1]? = some (.cells #[.slice none 0 0, .map none, .slice none 0 0] 71 (0, 0)) by rw [hwz]; exact put3_blk HB23.out _ _ _)
  have HXZ := hI (show Ext w wz by rw [hwz]; exact (put3_chg w3 (w.heap.size + 1 + 1) (.slice none 0 0) (.map none) (.slice none 0 0) (N := [w.heap.size + 1 + 1]) (by simp)).ext HX3.out (fun y hy => by simp only [List.mem_singleton] at hy; omega))
  unfold put3 at hwz
  rw [<- hwz]
  clear hwz
  obtain ⟨z0, z1, z2, zf⟩ := blk3 HZ.out
  refine bodyPost_ret (v := .tuple #[lossZero, .int .i64 4]) (by simp [results, Tryz.results31, go_sem, lossZero, z0, z1, z2]) rfl ?_
  exact ⟨HXZ.out, Or.inl ⟨by rw [HQ.out]; decide, by rw [HQ.out]⟩⟩
 have t3 : decide ((2000 : Int) < (X : Int)) = false := decide_eq_false (by omega)
 have HR4 := hI (show R = if B = false then 16 else 0 by rw [HR3.out, if_neg h3])
 clear h3 HR3
 obtain ⟨e0, ef⟩ := blk1 HB03.out
 go_wp2_with fail
 refine (HFC.out w3 HX3.out).mono ?_
 rintro r w4 ⟨rfl, hx4⟩
 have HX4 := hI (HX3.out.trans hx4)
 have HB04 := hI (hx4.blk HB03.out)
 have HB24 := hI (hx4.blk HB23.out)
 clear hx4 e0 ef HFC
 cases B
 case false =>
  have HQ := hI (show R = 16 by rw [HR4.out]; rfl)
  obtain ⟨r0, r1, r2, rf⟩ := blk3 HB24.out
  go_wp2_with fail
  obtain ⟨wz, hwz⟩ : ∃ wz, wz = put3 w4 (w.heap.size + 1 + 1) (.slice none 0 0) (.map none) (.slice none 0 0) := ⟨_, rfl⟩
  have HZ := hI (show wz.heap[w.heap.size + 1 + 1]? = some (.cells #[.slice none 0 0, .map none, .slice none 0 0] 71 (0, 0)) by rw [hwz]; exact put3_blk HB24.out _ _ _)
  have HXZ := hI (show Ext w wz by rw [hwz]; exact (put3_chg w4 (w.heap.size + 1 + 1) (.slice none 0 0) (.map none) (.slice none 0 0) (N := [w.heap.size + 1 + 1]) (by simp)).ext HX4.out (fun y hy => by simp only [List.mem_singleton] at hy; omega))
  unfold put3 at hwz
  rw [<- hwz]
  clear hwz
  obtain ⟨z0, z1, z2, zf⟩ := blk3 HZ.out
  refine bodyPost_ret (v := .tuple #[lossZero, .int .i64 16]) (by simp [results, Tryz.results31, go_sem, lossZero, z0, z1, z2]) rfl ?_
  exact ⟨HXZ.out, Or.inl ⟨by rw [HQ.out]; decide, by rw [HQ.out]⟩⟩
 have HQ := hI (show R = 0 by rw [HR4.out]; rfl)
 have hmm := @run_makeMap Tryz.prog
 have HM0 := hI (MapAt.made w4 9)
 have HX0 := hI ((Ext.refl w4).alloc (.map #[] 0))
 obtain ⟨bf, hbf⟩ : ∃ bf : Nat, bf = w4.heap.size := ⟨_, rfl⟩
 have HBF := hI hbf
 have HBW := hI (show w.heap.size + 1 + 1 < bf by rw [hbf]; exact blk_lt HB24.out)
 go_wp2_with fail
 rw [<- hbf]
 rw [<- hbf] at HM0
 clear hbf hmm
 go_loopw [47] (fun i wr => ∃ (k : Nat) (g : BA -> Option Value), k <= n /\ i = .int .i64 k /\ MapAt wr 9 bf k (strF g) /\ DefsG w (l.take k) g /\ wr.heap[w.heap.size]? = some (.cells #[.slice sa sn sc] 31 (0, 0)) /\ wr.heap[w.heap.size + 1 + 1]? = some (.cells #[.slice none 0 0, .map none, .slice none 0 0] 71 (0, 0)) /\ Ext w wr) (fun i _ => n - (intOf i).toNat)
 case atStart =>
  refine ⟨0, fun _ => none, by omega, rfl, HM0.out.congr fun x => ?_, fun s => ⟨fun _ => rfl, fun d hd => ?_⟩, HX0.out.blk HB04.out, HX0.out.blk HB24.out, HX4.out.trans HX0.out⟩
  ·cases x <;> simp [strF]
  simp [defAt] at hd
 case round =>
  obtain ⟨k, g, hk, rfl, hmap, hg, hb0, hb2, hx⟩ := hrel
  have HMP := hI hmap
  have HX := hI hx
  have HG := hI hg
  have HBA := hI hb0
  have HBC := hI hb2
  have hbw := hmap.lt
  clear hmap hx hg HM0 HX0 hb0 hb2
  by_cases hlt : k < n
  ·have hlt' : k < l.length := by have := HN.out; omega
   have t1 : decide ((k : Int) < (n : Int)) = true := decide_eq_true (by omega)
   obtain ⟨cb, coff, v, rfl, hcla, hrow⟩ := HL.out.at hlt'
   obtain ⟨c0, c1, c2, c3, c4, c5, c6, c7, c8, c9⟩ := (hrow.mono HX.out.sub).ten
   have hns : v.name.size <= 1000000000000000 := by rw [hcla.2.1]; exact HSZ.out _ (List.getElem_mem hlt')
   have hblt := block_lt c0
   simp only at hblt
   have HEXV := hI (show IsEx w l[k].cond (.agg #[.int .i64 v.x.op, .string v.x.name, .slice v.x.aw v.x.nw v.x.cw, .int .i64 v.x.lo, .int .i64 v.x.hi, .slice v.x.aa v.x.na v.x.ca]) from hcla.2.2.1)
   have HEK := hI (show l[k].kind = v.kind from hcla.1.symm)
   have HEN := hI (show l[k].name = v.name from hcla.2.1.symm)
   have HFR := hI (HCK.out.fresh hlt')
   rw [HEN.out] at HFR
   have HST := hI (fun h1 h2 => HG.out.step hlt' h1 h2 HEXV.out)
   have HSK := hI (HG.out.skip hlt')
   rw [HEK.out, HEN.out] at HST HSK
   clear hcla hrow
   cases hkd : (v.kind == 1)
   ·have HKN := hI (HSK.out (Or.inl (by simpa using hkd)))
    go_wp2_with fail
    go_roundw
    case rel =>
     have hxa := (Ext.refl wr).alloc (.cells #[.int .i64 v.kind, .string v.name, .int .i64 v.x.op, .string v.x.name, .slice v.x.aw v.x.nw v.x.cw, .int .i64 v.x.lo, .int .i64 v.x.hi, .slice v.x.aa v.x.na v.x.ca, .slice v.au v.nu v.cu, .int .i64 v.amount] 67)
     exact ⟨k + 1, g, by omega, by go_num, (HMP.out.ext hxa).more (by omega), HKN.out, hxa.blk HBA.out, hxa.blk HBC.out, HX.out.trans hxa⟩
    case measure => simp [intOf]; omega
   have HKN := hI (HST.out (by simpa using hkd) HFR.out)
   go_wp2_with (at_mapUpdate; refine wpList_map_put _ rfl _ _ _ 69 rfl 9 26 keyedStr uMapSE bf k _ rfl (HMP.out.ext ((Ext.refl wr).alloc _)) ?c3 _ _ _ rfl rfl (keyStr hns) trivial ?_)
   case c3 => unfold maxLen; omega
   intro w6 hm1 hc1
   have hxa := (Ext.refl wr).alloc (.cells #[.int .i64 v.kind, .string v.name, .int .i64 v.x.op, .string v.x.name, .slice v.x.aw v.x.nw v.x.cw, .int .i64 v.x.lo, .int .i64 v.x.hi, .slice v.x.aa v.x.na v.x.ca, .slice v.au v.nu v.cu, .int .i64 v.amount] 67)
   have hxm : Ext w w6 := hc1.ext (HX.out.trans hxa) (fun y hy => by simp only [List.mem_singleton] at hy; have := HBW.out; omega)
   have HB06 := hI (hc1.blk (hxa.blk HBA.out) (by have := HBW.out; simp; omega))
   have HB26 := hI (hc1.blk (hxa.blk HBC.out) (by have := HBW.out; simp; omega))
   have HM1 := hI (hm1.congr (setF_str g v.name _))
   have HX1 := hI hxm
   clear hm1 hc1 hxa hxm
   go_wp2_with fail
   go_roundw
   case rel => exact ⟨k + 1, _, by omega, by go_num, HM1.out, HKN.out, HB06.out, HB26.out, HX1.out⟩
   case measure => simp [intOf]; omega
  have t1 : decide ((k : Int) < (n : Int)) = false := decide_eq_false (by omega)
  have HKN := hI (show k = n by omega)
  obtain ⟨e0, ef⟩ := blk1 HBA.out
  obtain ⟨r0, r1, r2, rf⟩ := blk3 HBC.out
  go_wp2_with fail
  obtain ⟨wz, hwz⟩ : ∃ wz, wz = put3 wr (w.heap.size + 1 + 1) (.slice sa sn sc) (.map (some bf)) (.slice fa fn fc) := ⟨_, rfl⟩
  have HZ := hI (show wz.heap[w.heap.size + 1 + 1]? = some (.cells #[.slice sa sn sc, .map (some bf), .slice fa fn fc] 71 (0, 0)) by rw [hwz]; exact put3_blk HBC.out _ _ _)
  have hcz : Chg [w.heap.size + 1 + 1] wr wz := by rw [hwz]; exact put3_chg wr (w.heap.size + 1 + 1) (.slice sa sn sc) (.map (some bf)) (.slice fa fn fc) (by simp)
  have HXZ := hI (hcz.ext HX.out (fun y hy => by simp only [List.mem_singleton] at hy; omega))
  have HLZ := hI (show IsLoss wz s l f ⟨sa, sn, sc, bf, fa, fn, fc⟩ n from ⟨HS.out.ext HXZ.out, by
   exact ⟨g, by rw [<- HKN.out]; exact HMP.out.chg hcz (by have := HBW.out; simp; omega), by have := HG.out.ext HXZ.out; rwa [List.take_of_length_le (by have := HN.out; omega)] at this⟩, HI.out.ext HXZ.out⟩)
  unfold put3 at hwz
  rw [<- hwz]
  clear hwz hcz
  obtain ⟨z0, z1, z2, zf⟩ := blk3 HZ.out
  refine bodyPost_ret (v := .tuple #[LossV.val ⟨sa, sn, sc, bf, fa, fn, fc⟩, .int .i64 0]) (by simp [results, Tryz.results31, go_sem, LossV.val, z0, z1, z2]) rfl ?_
  exact ⟨HXZ.out, Or.inr ⟨by rw [HQ.out], _, rfl, HLZ.out⟩⟩
def fvV (lv : Value) : Value := .func (.func 44) #[lv] #[]
def idxI (o : Option Nat) : Int := match o with | some k => k | none => -1
theorem indexF_calls (lv : Value) (args : List Ex) (aa : OA) (na ca : Nat) (P : Ex -> Bool) (w : World) (hna : na = args.length) (hn2 : na <= 1000000) (hx : ExsD w args aa)
  (hc : ∀ (j : Nat) (hj : j < args.length) (xv : Value) (W : World), Ext w W -> IsEx W args[j] xv -> Calls Tryz.prog 44 #[lv, xv] W (GivesE (.bool (P args[j])) W)) :
  Calls Tryz.prog 89 #[.slice aa na ca, fvV lv] w (GivesE (.int .i64 (idxI (args.findIdx? P))) w) := by
 have HX := hI hx
 have HNA := hI hna
 have HC := hI hc
 obtain ⟨R, hR⟩ : ∃ R, R = idxI (args.findIdx? P) := ⟨_, rfl⟩
 rw [<- hR]
 have HR := hI hR
 clear hx hna hc hR
 unfold fvV
 go_enter Tryz.func89, Tryz.ntmps89
 go_wp2_with fail
 go_loopw [8] (fun i wr => ∃ k : Nat, i = .int .i64 k /\ k <= na /\ (∀ j (h : j < args.length), j < k -> P args[j] = false) /\ Ext w wr) (fun i _ => na - (intOf i).toNat)
 case atStart => exact ⟨0, rfl, by omega, fun j _ h => by omega, Ext.refl _⟩
 case round =>
  obtain ⟨k, rfl, hk, hno, hxr⟩ := hrel
  have HNO := hI hno
  have HXR := hI hxr
  clear hno hxr
  by_cases hkn : k < na
  ·have hka : k < args.length := by have := HNA.out; omega
   have t1 : decide ((k : Int) < (na : Int)) = true := decide_eq_true (by omega)
   obtain ⟨b, off, rfl, aw1, nw1, cw1, aa1, na1, ca1, h0, h1, h2, h3, h4, h5, h6⟩ := ExsD.at args _ (ExsD.ext HXR.out args _ HX.out) k hka
   have HAK := hI (HC.out k hka _ wr HXR.out h6)
   obtain ⟨B, hB⟩ : ∃ B, B = P args[k] := ⟨_, rfl⟩
   rw [<- hB] at HAK
   have HBB := hI hB
   unfold exV at HAK
   clear h6 hB
   go_wp2_with fail
   refine HAK.out.mono ?_
   rintro r w3 ⟨rfl, hx3⟩
   have HX3 := hI (HXR.out.trans hx3)
   clear hx3
   cases B
   ·go_wp2_with fail
    go_roundw
    case rel =>
     refine ⟨k + 1, by go_num, by omega, fun j hj hjk => ?_, HX3.out⟩
     by_cases e : j = k
     ·subst e; exact HBB.out.symm
     exact HNO.out j hj (by omega)
    case measure => simp [intOf]; omega
   have HF := hI (show R = (k : Int) by rw [HR.out, find_hit hka HBB.out.symm fun j hj hjk => HNO.out j hj hjk]; rfl)
   go_wp2_with fail
   go_ret
   exact givesE_of (by rw [HF.out]) HX3.out
  have t1 : decide ((k : Int) < (na : Int)) = false := decide_eq_false (by omega)
  have HF := hI (show R = -1 by rw [HR.out, find_miss fun j hj => HNO.out j hj (by have := HNA.out; omega)]; rfl)
  go_wp2_with fail
  go_ret
  exact givesE_of (by rw [HF.out]) HXR.out
theorem containsF_calls (lv : Value) (args : List Ex) (aa : OA) (na ca : Nat) (P : Ex -> Bool) (w : World) (hna : na = args.length) (hn2 : na <= 1000000) (hx : ExsD w args aa)
  (hc : ∀ (j : Nat) (hj : j < args.length) (xv : Value) (W : World), Ext w W -> IsEx W args[j] xv -> Calls Tryz.prog 44 #[lv, xv] W (GivesE (.bool (P args[j])) W)) :
  Calls Tryz.prog 65 #[.slice aa na ca, fvV lv] w (GivesE (.bool (args.any P)) w) := by
 have HI := hI (indexF_calls lv args aa na ca P w hna hn2 hx hc)
 obtain ⟨R, hR⟩ : ∃ R, R = args.any P := ⟨_, rfl⟩
 rw [<- hR]
 have HR := hI hR
 clear hx hna hc hR
 unfold fvV at *
 cases hf : args.findIdx? P with
 | none =>
  rw [hf] at HI
  have HF := hI (show R = false by
   rw [HR.out, List.any_eq_false]
   intro x hx
   rw [List.findIdx?_eq_none_iff] at hf
   simp [hf x hx])
  unfold idxI at HI
  go_enter Tryz.func65, Tryz.ntmps65
  go_wp2_with fail
  refine HI.out.mono ?_
  rintro r w3 ⟨rfl, hx3⟩
  have HX3 := hI hx3
  clear hx3
  go_wp2_with fail
  go_ret
  exact givesE_bool (by rw [HF.out]) HX3.out
 | some k =>
  rw [hf] at HI
  have HF := hI (show R = true by
   rw [HR.out, List.any_eq_true]
   rw [List.findIdx?_eq_some_iff_getElem] at hf
   obtain ⟨hk, h1, _⟩ := hf
   exact ⟨_, List.getElem_mem hk, h1⟩)
  have t1 : decide ((0 : Int) <= (k : Int)) = true := decide_eq_true (by omega)
  unfold idxI at HI
  go_enter Tryz.func65, Tryz.ntmps65
  go_wp2_with fail
  refine HI.out.mono ?_
  rintro r w3 ⟨rfl, hx3⟩
  have HX3 := hI hx3
  clear hx3
  go_wp2_with fail
  go_ret
  exact givesE_bool (by rw [HF.out]) HX3.out
theorem node_kinds {s : List Attr} {l : List Cla} (hc : Chk s l) {e : Ex} (ht : okTree e) (h : nodesErr s l e = 0) : ((e.op ≠ 6 /\ e.op ≠ 7 /\ e.op ≠ 8) /\ (e.op = 3 -> defAt l e.name = none)) \/ (e.op = 3 /\ attrAt s e.name = none /\ ∃ d, defAt l e.name = some d) \/ (e.op = 6 /\ e.args.length = 1) \/ e.op = 7 \/ e.op = 8 := by
 rcases node_ways ht h with h1 | h1 | ⟨h1, i, h2, -⟩ | ⟨h1, h3, d, h2⟩ | ⟨h1, i, h2, h3⟩ | ⟨h1, i, h2, -⟩ | ⟨h1, h2⟩ | h1 | h1
 ·exact Or.inl ⟨by omega, fun h => by omega⟩
 ·exact Or.inl ⟨by omega, fun h => by omega⟩
 ·refine Or.inl ⟨by omega, fun _ => ?_⟩
  cases hd : defAt l e.name with
  | none => rfl
  | some d => rw [hc.apart hd] at h2; cases h2
 ·exact Or.inr (Or.inl ⟨h1, h3, d, h2⟩)
 ·exact Or.inl ⟨by omega, fun h => by omega⟩
 ·exact Or.inl ⟨by omega, fun h => by omega⟩
 ·exact Or.inr (Or.inr (Or.inl ⟨h1, h2⟩))
 ·exact Or.inr (Or.inr (Or.inr (Or.inl h1)))
 exact Or.inr (Or.inr (Or.inr (Or.inr h1)))
def ValA (s : List Attr) (f : ZI) (V : BA -> Option Bool) (args : List Ex) (na : Nat) (w : World) (i : Value) (wr : World) : Prop := ∃ k : Nat, i = .int .i64 k /\ k <= na /\ (∀ j (h : j < args.length), j < k -> valE s f V args[j] = true) /\ Ext w wr
theorem value_calls (s : List Attr) (l : List Cla) (f : ZI) (hc : Chk s l) (hfa : factsAll s f = true) (lv : LossV) (nm : Nat) : ∀ (g m : Nat) (e : Ex) (ev : Value) (w : World), e.size <= m -> m <= 1000000 -> okTree e -> nodesErr s l e = 0 -> expF l g e <= 2000 -> IsLoss w s l f lv nm -> IsEx w e ev ->
  Calls Tryz.prog 44 #[lv.val, ev] w (GivesE (.bool (valF s l f g e)) w) := by
 intro g
 induction g with
 | zero => intro m e ev w _ _ _ _ h; simp [expF] at h
 | succ g ihg =>
  intro m
  induction m with
  | zero => intro e ev w h; have := size_pos e; omega
  | succ m ihm =>
   intro e ev w hm hMM hok hnd hex hl he
   have hways := node_kinds hc hok hnd
   have hfw := fact_ways hok hnd
   obtain ⟨-, hnda⟩ := nodes_parts hnd
   obtain ⟨hokn, hoka⟩ := okTree_parts hok
   have hexa := expE_arg (D := dOf l g) (e := e) (by rw [<- expF_succ]; exact hex)
   have hexh := expE_hd (D := dOf l g) (e := e) (by rw [<- expF_succ]; exact hex)
   have HFC := hI (fun h5 W (hW : Ext w W) => fact_calls s l f lv nm hc.sch hfa e ev W (hl.ext hW) (he.ext hW) hok h5)
   have HDC := hI (fun W (hW : Ext w W) => definition_calls s l f lv nm e ev W (hl.ext hW) (he.ext hW) (by have := (okTree_words hok).2; omega))
   obtain ⟨aw, nw, cw, aa, na, ca, rfl, hw, hna, hca, ha, hx⟩ := he.parts
   have hS : e.size = 1 + sizes e.args := e.size_eq
   have hla := length_le_sizes e.args
   obtain ⟨op, name, words, lo, hi, args⟩ := e
   simp only [Ex.op, Ex.name, Ex.words, Ex.lo, Ex.hi, Ex.args] at *
   have hna2 : na <= 1000000 := by omega
   have hszm : sizes args <= m := by omega
   obtain ⟨R, hR⟩ : ∃ R, R = valF s l f (g + 1) (.mk op name words lo hi args) := ⟨_, rfl⟩
   rw [<- hR]
   obtain ⟨V, hV⟩ : ∃ V, V = (fun x => (defAt l x).map fun d => valF s l f g (l.getD d cla0).cond) := ⟨_, rfl⟩
   have hvf : ∀ e, valF s l f (g + 1) e = valE s f V e := fun e => by rw [hV]; rfl
   rw [hvf, valE] at hR
   have HR := hI hR
   have HX := hI hx
   have HNA := hI hna
   have HARG := hI (fun (j : Nat) (hj : j < args.length) (xv : Value) (W : World) (hW : Ext w W) (hxv : IsEx W args[j] xv) => show Calls Tryz.prog 44 #[lv.val, xv] W (GivesE (.bool (valE s f V args[j])) W) from by
    rw [<- hvf]
    exact ihm args[j] xv W (by have h1 := sizes_take_succ args j hj; have h2 := sizes_take_le args (j + 1); omega) (by omega) (hoka _ (List.getElem_mem hj)) (hnda j hj) (by rw [expF_succ]; exact hexa j hj) (hl.ext hW) hxv)
   have HDEF := hI (fun (h3 : op = 3) (d : Nat) (hd : defAt l name = some d) (xv : Value) (W : World) (hW : Ext w W) (hxv : IsEx W (l.getD d cla0).cond xv) => ihg 300 (l.getD d cla0).cond xv W (hc.cond (defAt_atK hd).1).2.2 (by omega) (hc.cond (defAt_atK hd).1).1 (hc.cond (defAt_atK hd).1).2.1 (hexh h3 (by unfold dOf; rw [hd]; rfl)) (hl.ext hW) hxv)
   have HVV := hI (show ∀ d, defAt l name = some d -> V name = some (valF s l f g (l.getD d cla0).cond) from fun d hd => by rw [hV]; simp only [hd]; rfl)
   have HVN := hI (show defAt l name = none -> V name = none from fun hd => by rw [hV]; simp only [hd]; rfl)
   have HFW := hI hfw
   clear hc hfa hl hx hw hna hca ha hS hla ihg ihm hm hnda hoka hexa hexh hokn hok hnd hex he hR hvf hV hfw
   obtain ⟨sa, sn, sc, bm, fa, fn, fc⟩ := lv
   unfold exV LossV.val at *
   simp only at *
   obtain ⟨wa, hwa⟩ : ∃ wa, wa = (w.alloc (.cells #[.slice sa sn sc, .map (some bm), .slice fa fn fc] 71)).alloc (.cells #[.int .i64 op, .string name, .slice aw nw cw, .int .i64 lo, .int .i64 hi, .slice aa na ca] 26) := ⟨_, rfl⟩
   have hxa : Ext w wa := by rw [hwa]; exact ((Ext.refl _).alloc _).alloc _
   have hb0 : wa.heap[w.heap.size]? = some (.cells #[.slice sa sn sc, .map (some bm), .slice fa fn fc] 71 (0, 0)) := by rw [hwa]; exact blk_alloc (alloc_new w _)
   have hb1 : wa.heap[w.heap.size + 1]? = some (.cells #[.int .i64 op, .string name, .slice aw nw cw, .int .i64 lo, .int .i64 hi, .slice aa na ca] 26 (0, 0)) := by rw [hwa]; exact alloc_atR (by simp)
   have HXA := hI hxa
   have HB0 := hI hb0
   have HB1 := hI hb1
   obtain ⟨f0, f1, f2, f3, f4, f5, ff⟩ := blk6 hb1
   obtain ⟨e0, e1, e2, ef⟩ := blk3 hb0
   have hltw := blk_lt hb1
   clear hxa hb0 hb1
   have hmf : ∀ (fn : Fn) (first cap : Array Value) (w : World), (Instr.makeFunc fn first cap).run Tryz.prog w = .ok (.func fn first cap) w := fun _ _ _ _ => rfl
   rcases hways with ⟨h6, hdn⟩ | ⟨rfl, hat, d, hdf⟩ | ⟨rfl, hl1⟩ | rfl | rfl
   case inr.inr.inl =>
    have hj : 0 < args.length := by omega
    have HQ := hI (show R = !(valE s f V args[0]) by
     rw [HR.out, if_pos rfl, valHd_at, List.getElem?_eq_getElem hj]; rfl)
    have hnp : 0 < na := by have := HNA.out; omega
    obtain ⟨b, off, rfl, aw1, nw1, cw1, aa1, na1, ca1, h0, h1, h2, h3, h4, h5, h6⟩ := ExsD.at args _ (ExsD.ext HXA.out args _ HX.out) 0 hj
    have HA0 := hI (HARG.out 0 hj _ wa HXA.out h6)
    simp only [Nat.zero_mul, Nat.add_zero] at h0 h1 h2 h3 h4 h5
    obtain ⟨B, hB⟩ : ∃ B, B = valE s f V args[0] := ⟨_, rfl⟩
    rw [<- hB] at HQ HA0
    unfold exV at HA0
    clear hl1 hB HARG HDEF h6
    go_enter Tryz.func44, Tryz.ntmps44
    go_upto_region 1 with fail
    rw [<- hwa]
    clear hwa
    go_wp2_with fail
    refine HA0.out.mono ?_
    rintro r w3 ⟨rfl, hx3⟩
    have HX3 := hI (HXA.out.trans hx3)
    clear hx3
    go_wp2_with fail
    go_ret
    exact givesE_bool (by rw [HQ.out]) HX3.out
   -- a fact
   ·have t6 : (op == 6) = false := by simp [h6.1]
    have t7 : (op == 7) = false := by simp [h6.2.1]
    have t8 : (op == 8) = false := by simp [h6.2.2]
    have HQ := hI (show R = factV s f op name words lo hi by
     rw [HR.out, if_neg h6.1, if_neg h6.2.1, if_neg h6.2.2]
     by_cases h3 : op = 3
     ·rw [if_pos h3, HVN.out (hdn h3)]; rfl
     rw [if_neg h3])
    have HFC2 := hI (HFC.out (HFW.out h6 hdn))
    obtain ⟨B, hB⟩ : ∃ B, B = factV s f op name words lo hi := ⟨_, rfl⟩
    rw [<- hB] at HQ HFC2
    have HDN := hI hdn
    clear h6 hdn hB HARG HDEF HFC HFW
    go_enter Tryz.func44, Tryz.ntmps44
    go_upto_region 1 with fail
    rw [<- hwa]
    clear hwa
    go_wp2_with fail
    refine (HDC.out wa HXA.out).mono ?_
    rintro r w3 ⟨hx3, hq⟩
    rcases hq with ⟨h3, d, v, hd, -⟩ | ⟨-, rfl⟩
    ·rw [HDN.out h3] at hd; cases hd
    have HX3 := hI (HXA.out.trans hx3)
    have HB03 := hI (hx3.blk HB0.out)
    have HB13 := hI (hx3.blk HB1.out)
    clear f0 f1 f2 f3 f4 f5 ff e0 e1 e2 ef hltw hx3
    obtain ⟨f0, f1, f2, f3, f4, f5, ff⟩ := blk6 HB13.out
    obtain ⟨e0, e1, e2, ef⟩ := blk3 HB03.out
    have hltw := blk_lt HB13.out
    have hlt0 := blk_lt HB03.out
    unfold exZero
    go_wp2_with fail
    refine (HFC2.out _ (HX3.out.alloc _)).mono ?_
    rintro r w5 ⟨rfl, hx5⟩
    have HX5 := hI ((HX3.out.alloc _).trans hx5)
    clear hx5
    go_wp2_with fail
    go_ret
    exact givesE_bool (by rw [HQ.out]) HX5.out
   -- a definition
   ·have HQ := hI (show R = valF s l f g (l.getD d cla0).cond by
     rw [HR.out, if_neg (by decide), if_neg (by decide), if_neg (by decide), if_pos rfl, HVV.out d hdf]; rfl)
    have HDF := hI (HDEF.out rfl d hdf)
    obtain ⟨B, hB⟩ : ∃ B, B = valF s l f g (l.getD d cla0).cond := ⟨_, rfl⟩
    rw [<- hB] at HQ HDF
    have HDA := hI hdf
    clear hat hdf hB HARG HDEF HFC HFW
    go_enter Tryz.func44, Tryz.ntmps44
    go_upto_region 1 with fail
    rw [<- hwa]
    clear hwa
    go_wp2_with fail
    refine (HDC.out wa HXA.out).mono ?_
    rintro r w3 ⟨hx3, hq⟩
    rcases hq with ⟨-, d', v, hd, rfl, hv⟩ | ⟨hd, -⟩
    case inr =>
     rcases hd with hd | hd
     ·exact absurd rfl hd
     rw [HDA.out] at hd; cases hd
    rw [HDA.out] at hd
    obtain rfl : d = d' := by simpa using hd
    have HX3 := hI (HXA.out.trans hx3)
    have HEX := hI hv
    clear f0 f1 f2 f3 f4 f5 ff e0 e1 e2 ef hltw hx3 hv hd
    have HDG := hI (fun W (hW : Ext w3 W) => HDF.out v.val W (HX3.out.trans hW) (HEX.out.ext hW))
    unfold ExV.val exV at *
    go_wp2_with fail
    refine (HDG.out _ ((Ext.refl w3).alloc _)).mono ?_
    rintro r w5 ⟨rfl, hx5⟩
    have HX5 := hI ((HX3.out.alloc _).trans hx5)
    clear hx5
    go_wp2_with fail
    go_ret
    exact givesE_bool (by rw [HQ.out]) HX5.out
   -- and
   ·have HQ := hI (show R = args.all (valE s f V) by rw [HR.out, if_neg (by decide), if_pos rfl, valAll_iff])
    clear HDEF HFC HFW
    go_enter Tryz.func44, Tryz.ntmps44
    go_upto_region 1 with fail
    rw [<- hwa]
    clear hwa
    go_wp2_with fail
    clear f0 f1 f2 f3 f4 f5 ff e0 e1 e2 ef hltw
    go_loopw [34] (ValA s f V args na w) (fun i _ => na - (intOf i).toNat)
    case atStart => exact ⟨0, rfl, by omega, fun j _ h => by omega, HXA.out⟩
    case round =>
     obtain ⟨k, rfl, hk, hall, hxr⟩ := hrel
     have HALL := hI hall
     have HXR := hI hxr
     clear hall hxr
     by_cases hkn : k < na
     ·have hka : k < args.length := by have := HNA.out; omega
      have t1 : decide ((k : Int) < (na : Int)) = true := decide_eq_true (by omega)
      obtain ⟨b, off, rfl, aw1, nw1, cw1, aa1, na1, ca1, h0, h1, h2, h3, h4, h5, h6⟩ := ExsD.at args _ (ExsD.ext HXR.out args _ HX.out) k hka
      have H6 := hI h6
      have HAK := hI (fun W (hW : Ext wr W) => HARG.out k hka _ W (HXR.out.trans hW) (H6.out.ext hW))
      obtain ⟨B, hB⟩ : ∃ B, B = valE s f V args[k] := ⟨_, rfl⟩
      rw [<- hB] at HAK
      have HBB := hI hB
      unfold exV at HAK
      clear h6 hB
      go_wp2_with fail
      refine (HAK.out _ ((Ext.refl wr).alloc _)).mono ?_
      rintro r w3 ⟨rfl, hx3⟩
      have HX3 := hI ((HXR.out.alloc _).trans hx3)
      clear hx3 h0 h1 h2 h3 h4 h5
      cases B
      ·have HF := hI (show R = false by rw [HQ.out, List.all_eq_false]; exact ⟨_, List.getElem_mem hka, by rw [<- HBB.out]; simp⟩)
       go_wp2_with fail
       go_ret
       exact givesE_bool (by rw [HF.out]) HX3.out
      go_wp2_with fail
      go_roundw
      case rel =>
       refine ⟨k + 1, by go_num, by omega, fun j hj hjk => ?_, HX3.out⟩
       by_cases e : j = k
       ·subst e; exact HBB.out.symm
       exact HALL.out j hj (by omega)
      case measure => simp [intOf]; omega
     have t1 : decide ((k : Int) < (na : Int)) = false := decide_eq_false (by omega)
     have HF := hI (show R = true by
      rw [HQ.out, List.all_eq_true]
      intro x hx
      obtain ⟨j, hj, rfl⟩ := List.getElem_of_mem hx
      exact HALL.out j hj (by have := HNA.out; omega))
     go_wp2_with fail
     go_ret
     exact givesE_bool (by rw [HF.out]) HXR.out
   -- or
   have HQ := hI (show R = args.any (valE s f V) by rw [HR.out, if_neg (by decide), if_neg (by decide), if_pos rfl, valAny_iff])
   have HCF := hI (containsF_calls (.agg #[.slice sa sn sc, .map (some bm), .slice fa fn fc]) args aa na ca (valE s f V) wa HNA.out hna2 (ExsD.ext HXA.out args _ HX.out) fun j hj xv W hW hxv => HARG.out j hj xv W (HXA.out.trans hW) hxv)
   obtain ⟨B, hB⟩ : ∃ B, B = args.any (valE s f V) := ⟨_, rfl⟩
   rw [<- hB] at HQ HCF
   unfold fvV at HCF
   clear HDEF HFC HFW hB
   go_enter Tryz.func44, Tryz.ntmps44
   go_upto_region 1 with fail
   rw [<- hwa]
   clear hwa
   go_wp2_with fail
   refine HCF.out.mono ?_
   rintro r w3 ⟨rfl, hx3⟩
   have HX3 := hI (HXA.out.trans hx3)
   clear hx3
   go_wp2_with fail
   go_ret
   exact givesE_bool (by rw [HQ.out]) HX3.out
end Go.Proofs.YtpkljcgihobaiaaGreatDoor
