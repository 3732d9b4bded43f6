/-
  Texts of the claim, joined: CClas, Chkd, Value, GrowS.
-/
import Derived.Test.YtpkljcgihobaiaaGreatDoorAc19
import Derived.Test.YtpkljcgihobaiaaGreatDoorAc20
namespace Go.Proofs.YtpkljcgihobaiaaGreatDoor
open Go.RowKit Go.Maps
mutual
theorem okTree_bare : (e : Ex) -> okTree e -> bareE e = true
 | .mk op name words lo hi args, h => by
  rw [okTree] at h
  obtain ⟨hn, ha⟩ := h
  rw [bareE, okTrees_bare args ha, Bool.and_true]
  unfold okNode at hn
  simp only [Ex.op, Ex.args, Ex.name, Ex.words, Ex.lo, Ex.hi] at hn
  by_cases h3 : op = 3
  ·have : args = [] := by
    rcases hn with ⟨h, -⟩ | ⟨h, -⟩ | ⟨-, -, -, -, -, h⟩ | ⟨h, -⟩ | ⟨h, -⟩ | ⟨h, -⟩ | ⟨h, -⟩
    ·omega
    ·omega
    ·exact h
    ·omega
    ·omega
    ·omega
    ·omega
   simp [this]
  ·simp [h3]
theorem okTrees_bare : (l : List Ex) -> okTrees l -> bareL l = true
 | [], _ => by rw [bareL]
 | e :: r, h => by
  rw [okTrees] at h
  rw [bareL, okTree_bare e h.1, okTrees_bare r h.2]; rfl
end
theorem ref_bare {e : Ex} (h : refExprB e = true) : bareE e = true := okTree_bare e (ref_okTree h)
theorem claLarge_conds {l : List Cla} {i : Nat} (hi : i < l.length) : claLarge l i = if (condsC l[i]).any (fun x => decide (2000 < expanded l x)) = true then 4 else 0 := by
 unfold claLarge
 rw [getD_cla hi, backsLarge_conds]
 simp only [condsC, List.any_cons, Bool.or_eq_true, decide_eq_true_eq]
theorem defs_own {s : List Attr} {l : List Cla} (h : ∀ j, j < l.length -> claErr s l j = 0) {i : Nat} (hi : i < l.length) (hk : l[i].kind = 1) : defAt l l[i].name = some i := by
 have h0 := h i hi
 rw [<- ccErr_eq s l hi] at h0
 unfold ccErr at h0
 have hnone : findAt (l.take i) l[i].name = none := by
  cases hf : findAt (l.take i) l[i].name with
  | none => rfl
  | some q =>
   rw [hf] at h0
   split at h0
   ·cases h0
   ·simp at h0
 unfold defAt
 rw [List.findIdx?_eq_some_iff_getElem]
 refine ⟨hi, by simp [hk], fun j hj => ?_⟩
 unfold findAt at hnone
 rw [List.findIdx?_eq_none_iff] at hnone
 have := hnone l[j] (List.mem_iff_getElem.2 ⟨j, by simp; omega, by simp⟩)
 simp only [decide_eq_false_iff_not] at this
 simp [this]
def cclas10R (sa : Option Addr) (sn sc bm b off n c k : Nat) (v : ClV) (E : Int) : Nat -> Value -> World -> Prop
 | 0, u, _ => u = .agg #[.slice sa sn sc]
 | 1, u, _ => u = .map (some bm)
 | 2, u, _ => u = .slice (some ⟨b, off, none⟩) n c
 | 3, u, _ => u = .int .i64 ((k : Nat) : Int)
 | 4, u, _ => u = .slice (some ⟨b, off, none⟩) k c
 | 5, u, _ => u = .agg #[.int .i64 v.kind, .string v.name, .int .i64 v.x.op, .string v.x.name, .slice v.x.aw v.x.nw v.x.cw, .int .i64 v.x.lo, .int .i64 v.x.hi, .slice v.x.aa v.x.na v.x.ca, .slice v.au v.nu v.cu, .int .i64 v.amount]
 | 6, u, _ => u = .int .i64 E
 | _, u, _ => u = .int .i64 E
def CcL2 (l : List Cla) (n : Nat) (w3 : World) (t : Value) (wr : World) : Prop := ∃ k : Nat, t = .int .i64 ((k : Nat) : Int) /\ k <= n /\ (∀ j, j < k -> claLarge l j = 0) /\ Ext w3 wr
set_option maxRecDepth 100000 in
set_option maxHeartbeats 16000000 in
theorem cClauses_calls (s : List Attr) (l : List Cla) (sv : Value) (a : Option Addr) (n c : Nat) (w : World) (hs : IsSchema w s sv) (hf : ∀ x ∈ s, x.fits) (hsl : s.length <= 1000000000000000) (hl : IsClas w l a n c) (hn : n <= 1000000000000000) (hok : ∀ x ∈ l, x.fit) (ho : HasOps w) :
  Calls Tryz.prog 50 #[sv, .slice a n c] w (GivesE (clsV (clausesErr s l)) w) := by
 obtain ⟨sa, sn, sc, rfl, hsn⟩ := hs.slice
 have HL := hI hl
 have HN := hI hl.len
 have HOK := hI hok
 have hnc : n <= c := by obtain ⟨vs, h1, _⟩ := hl; exact h1.2.1
 have HVA := hI (fun (W : World) (hW : Ext w W) => sValidate_calls s (.agg #[.slice sa sn sc]) W (hs.ext hW) hf hsl)
 have HCC := hI (fun (hz : schemaErr s = 0) (bm nm : Nat) (ba : Option Addr) (bn bc i : Nat) (hi : i < l.length) (v : ClV) (W : World) (hW : Ext w W) (hd : DefsAt W l bm nm) (hb : IsClas W (l.take i) ba bn bc) (hbn : bn <= 1000000000000000) (hc : IsCla W l[i] v) => cclause_calls s hz l (l.take i) hf hsl bm nm ba bn bc l[i] v (.agg #[.slice sa sn sc]) W (hok _ (List.getElem_mem hi)) (ho.ext hW) (hs.ext hW) hd hb hbn hc)
 obtain ⟨R, hR⟩ : ∃ R, R = clausesErr s l := ⟨_, rfl⟩
 rw [<- hR]
 have HR := hI hR
 obtain ⟨wa, hwa⟩ : ∃ wa, wa = w.alloc (.cells #[.slice sa sn sc] 31) := ⟨_, rfl⟩
 have hxa : Ext w wa := by rw [hwa]; exact (Ext.refl _).alloc _
 have hb : wa.heap[w.heap.size]? = some (.cells #[.slice sa sn sc] 31 (0, 0)) := by rw [hwa]; exact alloc_new w _
 have HXA := hI hxa
 have HBA := hI hb
 obtain ⟨d0, df⟩ := blk1 hb
 have hlta := blk_lt hb
 clear hs hl hf hok hR hsn hxa hb ho
 go_enter Tryz.func50, Tryz.ntmps50
 go_upto_region 1 with fail
 rw [<- hwa]
 clear hwa
 go_wp2_with fail
 refine (HVA.out wa HXA.out).mono ?_
 rintro r w1 ⟨rfl, hx1⟩
 have HX1 := hI (HXA.out.trans hx1)
 have HB1 := hI (hx1.blk HBA.out)
 clear hx1 d0 df HVA hlta
 by_cases hse : schemaErr s = 0
 case neg =>
  have tz : (schemaErr s != 0) = true := by simp [hse]
  have HQ := hI (HR.out.trans (cls_bad hse))
  go_wp2_with fail
  go_ret2
  exact givesE_cls HQ.out HX1.out
 have tz : (schemaErr s != 0) = false := by simp [hse]
 have HSE := hI hse
 clear hse
 by_cases hm : 100 < n
 ·have tm : decide ((100 : Int) < (n : Int)) = true := decide_eq_true (by omega)
  have HQ := hI (HR.out.trans (cls_many HSE.out (by have := HN.out; omega)))
  go_wp2_with fail
  go_ret2
  exact givesE_cls HQ.out HX1.out
 have tm : decide ((100 : Int) < (n : Int)) = false := decide_eq_false (by omega)
 have HM := hI (show ¬ 100 < l.length by have := HN.out; omega)
 go_wp2_with fail
 refine (definitions_calls l a n c w1 (HL.out.ext HX1.out) (by omega) fun x hx => (HOK.out x hx).1).mono ?_
 rintro r w2 ⟨bm, rfl, hd2, hx2⟩
 have HD2 := hI hd2
 have HX2 := hI (HX1.out.trans hx2)
 have HB2 := hI (hx2.blk HB1.out)
 clear hd2 hx2
 go_wp2_with fail
 go_loopw [30] (fun t wr => ∃ k : Nat, t = .int .i64 ((k : Nat) : Int) /\ k <= n /\ (∀ j, j < k -> claErr s l j = 0) /\ Ext w2 wr) (fun t _ => n - (intOf t).toNat)
 case atStart => exact ⟨0, rfl, by omega, fun j h => by omega, Ext.refl _⟩
 case round =>
  obtain ⟨k, rfl, hk, hno, hxr⟩ := hrel
  have HNO := hI hno
  have HXR := hI hxr
  clear hno hxr
  by_cases hkn : k < n
  ·have hkl : k < l.length := by have := HN.out; omega
   have t1 : decide ((k : Int) < (n : Int)) = true := decide_eq_true (by omega)
   obtain ⟨b, off, v, rfl, hcla, hrow⟩ := (HL.out.ext (HX2.out.trans HXR.out)).at hkl
   obtain ⟨c0, c1, c2, c3, c4, c5, c6, c7, c8, c9⟩ := hrow.ten
   have ti0 : (0 : Int) <= (k : Int) := by omega
   have ti1 : (k : Int) <= (n : Int) := by omega
   have hkc : k <= c := by omega
   have HCE := hI (ccErr_eq s l hkl)
   have HHIT := hI (fun (e : Int) (h : claErr s l k = e) (h0 : e ≠ 0) => HR.out.trans (by rw [cls_hit HSE.out HM.out hkl HNO.out (by rw [h]; exact h0), h]))
   obtain ⟨y, hy⟩ : ∃ y, y = wr.heap.size := ⟨_, rfl⟩
   obtain ⟨wx, hwx⟩ : ∃ wx, wx = wr.alloc (.cells #[.int .i64 v.kind, .string v.name, .int .i64 v.x.op, .string v.x.name, .slice v.x.aw v.x.nw v.x.cw, .int .i64 v.x.lo, .int .i64 v.x.hi, .slice v.x.aa v.x.na v.x.ca, .slice v.au v.nu v.cu, .int .i64 v.amount] 67) := ⟨_, rfl⟩
   have hxx : Ext wr wx := by rw [hwx]; exact (Ext.refl _).alloc _
   have hby : wx.heap[y]? = some (.cells #[.int .i64 v.kind, .string v.name, .int .i64 v.x.op, .string v.x.name, .slice v.x.aw v.x.nw v.x.cw, .int .i64 v.x.lo, .int .i64 v.x.hi, .slice v.x.aa v.x.na v.x.ca, .slice v.au v.nu v.cu, .int .i64 v.amount] 67 (0, 0)) := by rw [hwx, hy]; exact alloc_new wr _
   have HXX := hI (HXR.out.trans hxx)
   have HCF := hI (fun (W : World) (hW : Ext wx W) => HCC.out HSE.out bm n (some ⟨b, off, none⟩) k c k hkl v W ((HX2.out.trans HXX.out).trans hW) (HD2.out.ext (HXX.out.trans hW)) ((HL.out.ext ((HX2.out.trans HXX.out).trans hW)).take (by omega)) (by omega) (hcla.mono (hxx.trans hW).sub))
   rw [HCE.out] at HCF
   obtain ⟨E, hE⟩ : ∃ E, E = claErr s l k := ⟨_, rfl⟩
   rw [<- hE] at HCF
   have HE := hI hE
   clear hcla hrow hE HCE
   go_upto_region 10 with fail
   rw [<- hwx, <- hy]
   clear hwx hy c0 c1 c2 c3 c4 c5 c6 c7 c8 c9
   obtain ⟨d0, df⟩ := blk1 ((HXX.out).blk HB2.out)
   obtain ⟨b0, b1, b2, b3, b4, b5, b6, b7, b8, b9, bf⟩ := blk10r hby
   clear hxx hby
   refine wp_region_grow (m := 8) [7] (GrG wx) GrE (GrP (cclas10R sa sn sc bm b off n c k v E)) (by kernel_rfl) (by kernel_rfl) ((Ext.refl wx).drew) ?_ ?_ ?_
   ·intro i k v W W' hi hk hne hout h hE
    have hE : Ext W W' := hE
    have hi' := ltc8 hi
    clear hi hk hne hout
    rcases hi' with rfl | rfl | rfl | rfl | rfl | rfl | rfl | rfl
    ·exact h
    ·exact h
    ·exact h
    ·exact h
    ·exact h
    ·exact h
    ·exact h
    ·exact h
   ·intro q op hq ho vs W hW hd ρ hρ
    have hq' := ltc8 hq
    clear hq
    have o2 : ρ (.tmp 2) = .pointer (some ⟨w.heap.size, 0, none⟩) := hρ.out 2 rfl
    have o7 : ρ (.tmp 7) = .map (some bm) := hρ.out 7 rfl
    have o1 : ρ (.tmp 1) = .slice (some ⟨b, off, none⟩) n c := hρ.out 1 rfl
    have o8 : ρ (.tmp 8) = .int .i64 ((k : Nat) : Int) := hρ.out 8 rfl
    have i2 := hρ.i 2 37
    have i3 := hρ.i 3 38
    have o9 : ρ (.tmp 9) = .pointer (some ⟨y, 0, none⟩) := hρ.out 9 rfl
    have i0 := hρ.i 0 35
    have i1 := hρ.i 1 36
    have i4 := hρ.i 4 39
    have i5 := hρ.i 5 40
    have i6 := hρ.i 6 41
    have hc := hρ.const
    have hfn := hρ.func
    clear hρ
    have HW := hI (show Ext wx W from hW)
    rcases hq' with rfl | rfl | rfl | rfl | rfl | rfl | rfl | rfl
    ·cases ho
     clear hd
     have g0 := HW.out.cell d0
     unfold GivesOp
     go_simp
     exact ⟨Ext.refl W, rfl⟩
    ·cases ho
     clear hd
     unfold GivesOp
     go_simp
     exact ⟨Ext.refl W, rfl⟩
    ·cases ho
     clear hd
     unfold GivesOp
     go_simp
     exact ⟨Ext.refl W, rfl⟩
    ·cases ho
     clear hd
     unfold GivesOp
     go_simp
     exact ⟨Ext.refl W, rfl⟩
    ·cases ho
     have h2 : vs 2 = _ := hd ⟨2, .data⟩ (by simp) rfl
     rw [h2] at i2
     have h3 : vs 3 = _ := hd ⟨3, .data⟩ (by simp) rfl
     rw [h3] at i3
     clear hd
     unfold GivesOp
     go_simp
     exact ⟨Ext.refl W, rfl⟩
    ·cases ho
     clear hd
     have g0 := HW.out.cell b0
     have g1 := HW.out.cell b1
     have g2 := HW.out.cell b2
     have g3 := HW.out.cell b3
     have g4 := HW.out.cell b4
     have g5 := HW.out.cell b5
     have g6 := HW.out.cell b6
     have g7 := HW.out.cell b7
     have g8 := HW.out.cell b8
     have g9 := HW.out.cell b9
     unfold GivesOp
     go_simp
     exact ⟨Ext.refl W, rfl⟩
    ·cases ho
     have h0 : vs 0 = _ := hd ⟨0, .data⟩ (by simp) rfl
     rw [h0] at i0
     have h1 : vs 1 = _ := hd ⟨1, .data⟩ (by simp) rfl
     rw [h1] at i1
     have h4 : vs 4 = _ := hd ⟨4, .data⟩ (by simp) rfl
     rw [h4] at i4
     have h5 : vs 5 = _ := hd ⟨5, .data⟩ (by simp) rfl
     rw [h5] at i5
     clear hd
     unfold GivesOp
     go_simp
     refine (HCF.out W HW.out).mono ?_
     rintro r5 w5 ⟨rfl, hx5⟩
     exact ⟨_, rfl, hx5, HW.out.trans hx5, rfl⟩
    ·cases ho
     have h6 : vs 6 = _ := hd ⟨6, .data⟩ (by simp) rfl
     rw [h6] at i6
     clear hd
     unfold GivesOp
     go_simp
     exact ⟨Ext.refl W, rfl⟩
   intro vs W hW hR
   rw [if_pos (by decide +kernel)]
   have h7 : vs 7 = .int .i64 E := hR 7 (by simp) (by omega)
   simp only [acts, dstAt, List.range, List.range.loop, List.foldl_cons, List.foldl_nil, h7]
   go_simp
   have hW2 : Ext wx W := hW
   clear hR hW h7
   have HX10 := hI (HXX.out.trans hW2)
   clear hW2 d0 df b0 b1 b2 b3 b4 b5 b6 b7 b8 b9 bf HCF
   by_cases hz : E = 0
   ·have tz0 : (E != 0) = false := by simp [hz]
    have HZ := hI (HE.out.symm.trans hz)
    clear hz
    go_wp2_with fail
    go_roundw
    case rel =>
     refine ⟨k + 1, by go_num, by omega, fun j hj => ?_, HX10.out⟩
     by_cases e0 : j = k
     ·subst e0; exact HZ.out
     ·exact HNO.out j (by omega)
    case measure => simp [intOf]; omega
   ·have tz0 : (E != 0) = true := by simp [hz]
    have HQ := hI (HHIT.out E HE.out.symm hz)
    clear hz
    go_wp2_with fail
    go_ret2
    exact givesE_cls HQ.out (HX2.out.trans HX10.out)
  ·have t1 : decide ((k : Int) < (n : Int)) = false := decide_eq_false (by omega)
   have HNA := hI (show ∀ j, j < l.length -> claErr s l j = 0 from fun j hj => HNO.out j (by have := HN.out; omega))
   have HSZ := hI (show ∀ x ∈ l, x.name.size <= 1000000000000000 /\ x.cond.size <= 100000 /\ x.cond.fits /\ (∀ y ∈ condsC x, refExprB y = true) /\ wbN x.unl <= 40 by
    intro x hx
    obtain ⟨j, hj, rfl⟩ := List.mem_iff_getElem.1 hx
    have hv := claErr_valid (HNA.out j hj) hj
    have hf := HOK.out _ hx
    exact ⟨hf.1, refExprB_size (clauseB_cond hv), hf.2.1, (clause_refs hv).1, (clause_refs hv).2⟩)
   have HXW := hI (HX2.out.trans HXR.out)
   clear HNO
   go_wp2_with fail
   refine (order_calls (l.map Cla.cl) a n c wr (HL.out.ext HXW.out).cls (by omega) (by
    intro x hx
    obtain ⟨c', hc', rfl⟩ := List.mem_map.1 hx
    have := HSZ.out c' hc'
    exact ⟨this.2.1, this.2.2.1, this.1⟩)).mono ?_
   rw [show (l.map Cla.cl).map Cl.dfn = l.map Cla.dfn by rw [List.map_map]; rfl]
   rintro r w3 ⟨hx3, ⟨o, oa, oc, ht, rfl, hoi⟩ | ⟨o, q1, q2, rfl⟩⟩
   ·have HT := hI ht
    have HOI := hI hoi
    have HX3 := hI (HXW.out.trans hx3)
    have HSO := hI (show Sorts (l.map Cla.dfn) from ⟨o, ht⟩)
    have hol : o.length <= 1000 := by have h1 := ht.len; have := HN.out; simp at h1; omega
    have HSE2 := hI (fun (x : Ex) (hx : bareE x = true) => sizes_exp ht (fun i hi => by
     have hil : i < l.length := by simpa using ht.lt hi
     rw [getD_cla hil]
     exact defs_own HNA.out hil (by have := (ht.all i).1 hi; rw [isDef_dfn hil] at this; simpa using this)) (fun i hi => by
     have hil : i < l.length := by simpa using ht.lt hi
     rw [getD_cla hil]
     exact ref_bare ((HSZ.out _ (List.getElem_mem hil)).2.2.2.1 _ (by simp [condsC]))) x hx)
    clear ht hoi hx3
    go_wp2_with fail
    refine (sizes_calls l a n c o oa oc w3 (HL.out.ext HX3.out) (by omega) HOI.out (by omega) (fun i hi => by simpa using HT.out.lt hi) (fun x hx => by have := HSZ.out x hx; exact ⟨this.1, by omega, this.2.2.1⟩)).mono ?_
    rintro r w4 ⟨bs, rfl, hm4, hx4⟩
    have HM4 := hI hm4
    have HX4 := hI (HX3.out.trans hx4)
    clear hm4 hx4
    go_wp2_with fail
    go_loopw [60] (CcL2 l n w4) (fun t _ => n - (intOf t).toNat)
    case atStart => exact ⟨0, rfl, by omega, fun j h => by omega, Ext.refl _⟩
    case round =>
     obtain ⟨k2, rfl, hk2, hno, hxr⟩ := hrel
     obtain ⟨wo, rfl⟩ : ∃ wo : World, wo = wr := ⟨_, rfl⟩
     have HNO := hI hno
     have HXR2 := hI hxr
     clear hno hxr
     by_cases hkn2 : k2 < n
     ·have hkl : k2 < l.length := by have := HN.out; omega
      have t2 : decide ((k2 : Int) < (n : Int)) = true := decide_eq_true (by omega)
      obtain ⟨b, off, v, rfl, hcla, hrow⟩ := (HL.out.ext (HX4.out.trans HXR2.out)).at hkl
      obtain ⟨c0, c1, c2, c3, c4, c5, c6, c7, c8, c9⟩ := hrow.ten
      have HFT := hI (condsC_fit (HOK.out _ (List.getElem_mem hkl)))
      have HRF := hI (HSZ.out _ (List.getElem_mem hkl)).2.2.2.1
      have hwb := (HSZ.out _ (List.getElem_mem hkl)).2.2.2.2
      have HLG := hI (claLarge_conds hkl)
      have HHIT := hI (fun (h : claLarge l k2 = 4) => HR.out.trans (cls_large HSE.out HM.out HNA.out HSO.out hkl HNO.out h))
      have HCN := hI (fun (W : World) (hW : Ext wo W) => conditions_calls l[k2] v W (hcla.mono hW.sub) (by omega))
      have HCL := hI (condsC_len l[k2])
      clear hcla hrow
      go_wp2_with fail
      refine (HCN.out _ ((Ext.refl wo).alloc _)).mono ?_
      rintro r w6 ⟨ea, en, ek, rfl, hen, henk, hed, hx6⟩
      have HX6 := hI ((HXR2.out.alloc _).trans hx6)
      have HED := hI hed
      have HEN := hI hen
      have hen2 : en <= 41 := by have := HCL.out; omega
      clear hx6 hed hen c0 c1 c2 c3 c4 c5 c6 c7 c8 c9 HCN
      go_wp2_with fail
      go_loopw [68] (fun t wr => ∃ q : Nat, t = .int .i64 ((q : Nat) : Int) /\ q <= en /\ (∀ j (h : j < (condsC l[k2]).length), j < q -> ¬ 2000 < expanded l (condsC l[k2])[j]) /\ Ext w6 wr) (fun t _ => en - (intOf t).toNat)
      case atStart => exact ⟨0, rfl, by omega, fun j _ h => by omega, Ext.refl _⟩
      case round =>
       obtain ⟨q, rfl, hq, hall, hxq⟩ := hrel
       have HALL := hI hall
       have HXQ := hI hxq
       clear hall hxq
       by_cases hqn : q < en
       ·have hql : q < (condsC l[k2]).length := by have := HEN.out; omega
        have t3 : decide ((q : Int) < (en : Int)) = true := decide_eq_true (by omega)
        obtain ⟨b', off', rfl, aw1, nw1, cw1, aa1, na1, ca1, h0, h1, h2, h3, h4, h5, h6⟩ := ExsD.at (condsC l[k2]) _ (ExsD.ext HXQ.out (condsC l[k2]) _ HED.out) q hql
        have hmem := List.getElem_mem hql
        have hxs := refExprB_size (HRF.out _ hmem)
        have HCX := hI (fun (W : World) (hW : Ext wr W) => cexp_calls (sizesF l o) (sizesF_le l o) bs o.length 1000000000000000 (condsC l[k2])[q] _ W (by omega) (by omega) (HFT.out _ hmem).1 (HM4.out.ext ((HX6.out.trans HXQ.out).trans hW)) (h6.ext hW))
        have hblt := block_lt h0
        simp only at hblt
        rw [HSE2.out _ (ref_bare (HRF.out _ hmem))] at HCX
        unfold exV at HCX
        obtain ⟨E, hE⟩ : ∃ E, E = expanded l (condsC l[k2])[q] := ⟨_, rfl⟩
        rw [<- hE] at HCX
        have hel : E <= 2001 := by rw [hE]; exact expF_le l _ _
        have HE := hI hE
        clear h6 hE
        go_wp2_with fail
        refine (HCX.out _ ((Ext.refl wr).alloc _)).mono ?_
        rintro r w7 ⟨rfl, hx7⟩
        have HX7 := hI ((HXQ.out.alloc _).trans hx7)
        clear hx7 h0 h1 h2 h3 h4 h5 HCX
        by_cases hlg : 2000 < E
        ·have t4 : decide ((2000 : Int) < (E : Int)) = true := decide_eq_true (by omega)
         have HQ := hI (HHIT.out (by
          rw [HLG.out, if_pos]
          rw [List.any_eq_true]
          exact ⟨_, hmem, by rw [<- HE.out]; simpa using hlg⟩))
         clear hmem
         go_wp2_with fail
         go_ret2
         exact givesE_cls HQ.out (HX4.out.trans (HX6.out.trans HX7.out))
        ·have t4 : decide ((2000 : Int) < (E : Int)) = false := decide_eq_false (by omega)
         have HNL := hI (show ¬ 2000 < expanded l (condsC l[k2])[q] by rw [<- HE.out]; exact hlg)
         clear hmem hlg
         go_wp2_with fail
         go_roundw
         case rel =>
          refine ⟨q + 1, by go_num, by omega, fun j hj hjk => ?_, HX7.out⟩
          by_cases e0 : j = q
          ·subst e0; exact HNL.out
          ·exact HALL.out j hj (by omega)
         case measure => simp [intOf]; omega
       ·have t3 : decide ((q : Int) < (en : Int)) = false := decide_eq_false (by omega)
        have HZ := hI (show claLarge l k2 = 0 by
         rw [HLG.out, if_neg]
         rw [Bool.not_eq_true, List.any_eq_false]
         intro x hx
         obtain ⟨j, hj, rfl⟩ := List.mem_iff_getElem.1 hx
         simpa using HALL.out j hj (by have := HEN.out; omega))
        go_wp2_with fail
        go_roundw
        case rel =>
         refine ⟨k2 + 1, by go_num, by omega, fun j hj => ?_, HX6.out.trans HXQ.out⟩
         by_cases e0 : j = k2
         ·subst e0; exact HZ.out
         ·exact HNO.out j (by omega)
        case measure => simp [intOf]; omega
     ·have t2 : decide ((k2 : Int) < (n : Int)) = false := decide_eq_false (by omega)
      have HQ := hI (HR.out.trans (cls_good HSE.out HM.out HNA.out HSO.out fun j hj => HNO.out j (by have := HN.out; omega)))
      go_wp2_with fail
      go_ret2
      exact givesE_cls HQ.out (HX4.out.trans HXR2.out)
   ·have HQ := hI (HR.out.trans (cls_cycle HSE.out HM.out HNA.out (q1.none q2)))
    have HX3 := hI (HXW.out.trans hx3)
    clear hx3 q1 q2
    go_wp2_with fail
    go_ret2
    exact givesE_cls HQ.out HX3.out
open Go.RowKit Go.Maps
def put3 (w : World) (B : Nat) (v0 v1 v2 : Value) : World := ((w.setCell ⟨B, 0, none⟩ v0).setCell ⟨B, 1, none⟩ v1).setCell ⟨B, 2, none⟩ v2
theorem put3_blk {w : World} {B : Nat} {u0 u1 u2 : Value} {t : TypeId} (h : w.heap[B]? = some (.cells #[u0, u1, u2] t (0, 0))) (v0 v1 v2 : Value) : (put3 w B v0 v1 v2).heap[B]? = some (.cells #[v0, v1, v2] t (0, 0)) := by
 unfold put3
 have h0 := heap_setCell_same w B 0 _ _ v0 h
 have h1 := heap_setCell_same _ B 1 _ _ v1 h0
 have h2 := heap_setCell_same _ B 2 _ _ v2 h1
 rw [h2]; rfl
theorem put3_chg (w : World) (B : Nat) (v0 v1 v2 : Value) {N : List Nat} (h : B ∈ N) : Chg N w (put3 w B v0 v1 v2) := by
 unfold put3
 exact (((Chg.refl _ _).setCell (Or.inl h) _).setCell (Or.inl h) _).setCell (Or.inl h) _
def lossZero : Value := .agg #[.slice none 0 0, .map none, .slice none 0 0]
def CheckedQ (s : List Attr) (l : List Cla) (e : Ex) (f : List Int) (n : Nat) (w : World) (r : Ending) (w' : World) : Prop := Ext w w' /\ ((evalErr s l e f ≠ 0 /\ r = .returned (.tuple #[lossZero, .int .i64 (evalErr s l e f)])) \/ (evalErr s l e f = 0 /\ ∃ lv : LossV, r = .returned (.tuple #[lv.val, .int .i64 0]) /\ IsLoss w' s l f lv n))
theorem Chk.fresh {s : List Attr} {l : List Cla} (h : Chk s l) {k : Nat} (hk : k < l.length) : defAt (l.take k) l[k].name = none := by
 cases hd : defAt (l.take k) l[k].name with
 | none => rfl
 | some d =>
  obtain ⟨h1, _, h3⟩ := defAt_atK hd
  have hdk : d < k := by simp at h1; omega
  have := h.uniq k d hk hdk
  rw [getD_take hdk] at h3
  rw [h3, getD_clK hk] at this
  exact absurd rfl this
set_option maxRecDepth 100000 in
set_option maxHeartbeats 16000000 in
theorem checked_calls (s : List Attr) (l : List Cla) (e : Ex) (f : List Int) (ev sv : Value) (a : Option Addr) (n c : Nat) (fa : Option Addr) (fn fc : Nat) (w : World) (hs : IsSchema w s sv) (hf : ∀ x ∈ s, x.fits) (hsl : s.length <= 1000000000000000) (hl : IsClas w l a n c) (hn : n <= 1000000) (hok : ∀ x ∈ l, x.fit) (he : IsEx w e ev) (hfew : e.few) (hfit : e.fits) (hi : IsIntF w f fa fn) (hfn : fn <= 1000000000000000) (ho : HasOps w) :
  Calls Tryz.prog 31 #[sv, .slice a n c, ev, .slice fa fn fc] w (CheckedQ s l e f n w) := by
 obtain ⟨sa, sn, sc, rfl, hsn⟩ := hs.slice
 have HCL := hI (fun W (hW : Ext w W) => cClauses_calls s l _ a n c W (hs.ext hW) hf hsl (hl.ext hW) (by omega) hok (ho.ext hW))
 have HEX := hI (fun W (hW : Ext w W) => checkExpr_calls s l a n c e ev _ W hf hsl (hl.ext hW) hn (fun x hx => (hok x hx).1) hfew hfit (ho.ext hW) (hs.ext hW) (he.ext hW))
 have HXP := hI (fun (h1 : (clausesErr s l).2 = 0) (h2 : exprErr s l e = 0) W (hW : Ext w W) => cExpanded_calls l a n c e ev W (hl.ext hW) (he.ext hW) ⟨by have := ref_size (exprErr_ref h2); omega, hfit, ref_bare (exprErr_ref h2)⟩ (by rw [hl.len]; have := (chk_of h1).len; omega) (fun x hx => ⟨(hok x hx).1, by have := (chk_of h1).size x hx; omega, (hok x hx).2.1, ref_bare ((chk_of h1).good x hx).2.2.1⟩))
 have HFC := hI (fun W (hW : Ext w W) => sValid_calls s _ f fa fn fc W (hs.ext hW) hf hsl (hi.ext hW) hfn)
 have HCK := hI (fun (h1 : (clausesErr s l).2 = 0) => chk_of h1)
 have HL := hI hl
 have HS := hI hs
 have HI := hI hi
 have HSZ := hI (fun x hx => (hok x hx).1)
 have HN := hI hl.len
 obtain ⟨aw, nw, cw, aa, na, ca, rfl, -⟩ := he.parts
 obtain ⟨R, hR⟩ : ∃ R, R = evalErr s l e f := ⟨_, rfl⟩
 unfold CheckedQ
 rw [<- hR]
 unfold evalErr at hR
 obtain ⟨⟨i0, E1⟩, hE1⟩ : ∃ E : Nat × Int, E = clausesErr s l := ⟨_, rfl⟩
 rw [<- hE1] at HCL hR
 have HXP1 := hI (fun (h1 : E1 = 0) => HXP.out (by rw [<- hE1]; exact h1))
 have HCK1 := hI (fun (h1 : E1 = 0) => HCK.out (by rw [<- hE1]; exact h1))
 clear HXP HCK
 obtain ⟨E2, hE2⟩ : ∃ E, E = exprErr s l e := ⟨_, rfl⟩
 rw [<- hE2] at HEX hR
 have HXP := hI (fun (h1 : E1 = 0) (h2 : E2 = 0) => HXP1.out h1 (by rw [<- hE2]; exact h2))
 clear HXP1
 obtain ⟨X, hX⟩ : ∃ X, X = expanded l e := ⟨_, rfl⟩
 rw [<- hX] at HXP hR
 obtain ⟨B, hB⟩ : ∃ B, B = factsB s f := ⟨_, rfl⟩
 rw [<- hB] at HFC hR
 have HR := hI hR
 clear hs hf hsl hl hok he hfew hfit hi hsn hR hE1 hE2 hX hB ho
 unfold exV at *
 obtain ⟨wa, hwa⟩ : ∃ wa, wa = ((w.alloc (.cells #[.slice sa sn sc] 31)).alloc (.cells #[.int .i64 e.op, .string e.name, .slice aw nw cw, .int .i64 e.lo, .int .i64 e.hi, .slice aa na ca] 26)).alloc (.cells #[.slice none 0 0, .map none, .slice none 0 0] 71) := ⟨_, rfl⟩
 have hxa : Ext w wa := by rw [hwa]; exact (((Ext.refl _).alloc _).alloc _).alloc _
 have hb0 : wa.heap[w.heap.size]? = some (.cells #[.slice sa sn sc] 31 (0, 0)) := by rw [hwa]; exact blk_alloc (blk_alloc (alloc_new w _))
 have hb1 : wa.heap[w.heap.size + 1]? = some (.cells #[.int .i64 e.op, .string e.name, .slice aw nw cw, .int .i64 e.lo, .int .i64 e.hi, .slice aa na ca] 26 (0, 0)) := by rw [hwa]; exact blk_alloc (alloc_atR (by simp))
 have hb2 : wa.heap[w.heap.size + 1 + 1]? = some (.cells #[.slice none 0 0, .map none, .slice none 0 0] 71 (0, 0)) := by rw [hwa]; exact alloc_atR (by simp)
 have HXA := hI hxa
 have HB0 := hI hb0
 have HB1 := hI hb1
 have HB2 := hI hb2
 obtain ⟨e0, ef⟩ := blk1 hb0
 clear hxa hb0 hb1 hb2
 unfold clsV at HCL
 go_enter Tryz.func31, Tryz.ntmps31
 go_upto_region 1 with fail
 rw [<- hwa]
 clear hwa
 go_wp2_with fail
 refine (HCL.out wa HXA.out).mono ?_
 rintro r w1 ⟨rfl, hx1⟩
 have HX1 := hI (HXA.out.trans hx1)
 have HB01 := hI (hx1.blk HB0.out)
 have HB11 := hI (hx1.blk HB1.out)
 have HB21 := hI (hx1.blk HB2.out)
 clear hx1 e0 ef HCL HB0 HB1 HB2
 by_cases h1 : E1 = 0
 case neg =>
  have t1 : (E1 != 0) = true := by simp [h1]
  have HQ := hI (show R = E1 by rw [HR.out, if_pos h1])
  have HNZ := hI h1
  clear h1
  obtain ⟨r0, r1, r2, rf⟩ := blk3 HB21.out
  go_wp2_with fail
  obtain ⟨wz, hwz⟩ : ∃ wz, wz = put3 w1 (w.heap.size + 1 + 1) (.slice none 0 0) (.map none) (.slice none 0 0) := ⟨_, rfl⟩
  have HZ := hI (show wz.heap[w.heap.size + 1 + 1]? = some (.cells #[.slice none 0 0, .map none, .slice none 0 0] 71 (0, 0)) by rw [hwz]; exact put3_blk HB21.out _ _ _)
  have HXZ := hI (show Ext w wz by rw [hwz]; exact (put3_chg w1 (w.heap.size + 1 + 1) (.slice none 0 0) (.map none) (.slice none 0 0) (N := [w.heap.size + 1 + 1]) (by simp)).ext HX1.out (fun y hy => by simp only [List.mem_singleton] at hy; omega))
  unfold put3 at hwz
  rw [<- hwz]
  clear hwz
  obtain ⟨z0, z1, z2, zf⟩ := blk3 HZ.out
  refine bodyPost_ret (v := .tuple #[lossZero, .int .i64 E1]) (by simp [results, Tryz.results31, go_sem, lossZero, z0, z1, z2]) rfl ?_
  exact ⟨HXZ.out, Or.inl ⟨by rw [HQ.out]; exact HNZ.out, by rw [HQ.out]⟩⟩
 have t1 : (E1 != 0) = false := by simp [h1]
 have HR2 := hI (show R = if E2 ≠ 0 then E2 else if 2000 < X then 4 else if B = false then 16 else 0 by rw [HR.out, if_neg (by simpa using h1)])
 have HXP1 := hI (HXP.out h1)
 have HCK := hI (HCK1.out h1)
 clear h1 HR HXP HCK1
 obtain ⟨e0, ef⟩ := blk1 HB01.out
 obtain ⟨f0, f1, f2, f3, f4, f5, ff⟩ := blk6 HB11.out
 go_wp2_with fail
 refine (HEX.out w1 HX1.out).mono ?_
 rintro r w2 ⟨rfl, hx2⟩
 have HX2 := hI (HX1.out.trans hx2)
 have HB02 := hI (hx2.blk HB01.out)
 have HB12 := hI (hx2.blk HB11.out)
 have HB22 := hI (hx2.blk HB21.out)
 clear hx2 e0 ef f0 f1 f2 f3 f4 f5 ff HEX
 by_cases h2 : E2 = 0
 case neg =>
  have t2 : (E2 != 0) = true := by simp [h2]
  have HQ := hI (show R = E2 by rw [HR2.out, if_pos h2])
  have HNZ := hI h2
  clear h2
  obtain ⟨r0, r1, r2, rf⟩ := blk3 HB22.out
  go_wp2_with fail
  obtain ⟨wz, hwz⟩ : ∃ wz, wz = put3 w2 (w.heap.size + 1 + 1) (.slice none 0 0) (.map none) (.slice none 0 0) := ⟨_, rfl⟩
  have HZ := hI (show wz.heap[w.heap.size + 1 + 1]? = some (.cells #[.slice none 0 0, .map none, .slice none 0 0] 71 (0, 0)) by rw [hwz]; exact put3_blk HB22.out _ _ _)
  have HXZ := hI (show Ext w wz by rw [hwz]; exact (put3_chg w2 (w.heap.size + 1 + 1) (.slice none 0 0) (.map none) (.slice none 0 0) (N := [w.heap.size + 1 + 1]) (by simp)).ext HX2.out (fun y hy => by simp only [List.mem_singleton] at hy; omega))
  unfold put3 at hwz
  rw [<- hwz]
  clear hwz
  obtain ⟨z0, z1, z2, zf⟩ := blk3 HZ.out
  refine bodyPost_ret (v := .tuple #[lossZero, .int .i64 E2]) (by simp [results, Tryz.results31, go_sem, lossZero, z0, z1, z2]) rfl ?_
  exact ⟨HXZ.out, Or.inl ⟨by rw [HQ.out]; exact HNZ.out, by rw [HQ.out]⟩⟩
 have t2 : (E2 != 0) = false := by simp [h2]
 have HR3 := hI (show R = if 2000 < X then 4 else if B = false then 16 else 0 by rw [HR2.out, if_neg (by simpa using h2)])
 have HXP2 := hI (HXP1.out h2)
 clear h2 HR2 HXP1
 obtain ⟨f0, f1, f2, f3, f4, f5, ff⟩ := blk6 HB12.out
 go_wp2_with fail
 refine (HXP2.out w2 HX2.out).mono ?_
 rintro r w3 ⟨rfl, hx3⟩
 have HX3 := hI (HX2.out.trans hx3)
 have HB03 := hI (hx3.blk HB02.out)
 have HB23 := hI (hx3.blk HB22.out)
 clear hx3 f0 f1 f2 f3 f4 f5 ff HXP2
 by_cases h3 : 2000 < X
 case pos =>
  have t3 : decide ((2000 : Int) < (X : Int)) = true := decide_eq_true (by omega)
  have HQ := hI (show R = 4 by rw [HR3.out, if_pos h3])
  clear h3
  obtain ⟨r0, r1, r2, rf⟩ := blk3 HB23.out
  go_wp2_with fail
  obtain ⟨wz, hwz⟩ : ∃ wz, wz = put3 w3 (w.heap.size + 1 + 1) (.slice none 0 0) (.map none) (.slice none 0 0) := ⟨_, rfl⟩
  have HZ := hI (show wz.heap[w.heap.size + 1 + 1]? = some (.cells #[.slice none 0 0, .map none, .slice none 0 0] 71 (0, 0)) by rw [hwz]; exact put3_blk HB23.out _ _ _)
  have HXZ := hI (show Ext w wz by rw [hwz]; exact (put3_chg w3 (w.heap.size + 1 + 1) (.slice none 0 0) (.map none) (.slice none 0 0) (N := [w.heap.size + 1 + 1]) (by simp)).ext HX3.out (fun y hy => by simp only [List.mem_singleton] at hy; omega))
  unfold put3 at hwz
  rw [<- hwz]
  clear hwz
  obtain ⟨z0, z1, z2, zf⟩ := blk3 HZ.out
  refine bodyPost_ret (v := .tuple #[lossZero, .int .i64 4]) (by simp [results, Tryz.results31, go_sem, lossZero, z0, z1, z2]) rfl ?_
  exact ⟨HXZ.out, Or.inl ⟨by rw [HQ.out]; decide, by rw [HQ.out]⟩⟩
 have t3 : decide ((2000 : Int) < (X : Int)) = false := decide_eq_false (by omega)
 have HR4 := hI (show R = if B = false then 16 else 0 by rw [HR3.out, if_neg h3])
 clear h3 HR3
 obtain ⟨e0, ef⟩ := blk1 HB03.out
 go_wp2_with fail
 refine (HFC.out w3 HX3.out).mono ?_
 rintro r w4 ⟨rfl, hx4⟩
 have HX4 := hI (HX3.out.trans hx4)
 have HB04 := hI (hx4.blk HB03.out)
 have HB24 := hI (hx4.blk HB23.out)
 clear hx4 e0 ef HFC
 cases B
 case false =>
  have HQ := hI (show R = 16 by rw [HR4.out]; rfl)
  obtain ⟨r0, r1, r2, rf⟩ := blk3 HB24.out
  go_wp2_with fail
  obtain ⟨wz, hwz⟩ : ∃ wz, wz = put3 w4 (w.heap.size + 1 + 1) (.slice none 0 0) (.map none) (.slice none 0 0) := ⟨_, rfl⟩
  have HZ := hI (show wz.heap[w.heap.size + 1 + 1]? = some (.cells #[.slice none 0 0, .map none, .slice none 0 0] 71 (0, 0)) by rw [hwz]; exact put3_blk HB24.out _ _ _)
  have HXZ := hI (show Ext w wz by rw [hwz]; exact (put3_chg w4 (w.heap.size + 1 + 1) (.slice none 0 0) (.map none) (.slice none 0 0) (N := [w.heap.size + 1 + 1]) (by simp)).ext HX4.out (fun y hy => by simp only [List.mem_singleton] at hy; omega))
  unfold put3 at hwz
  rw [<- hwz]
  clear hwz
  obtain ⟨z0, z1, z2, zf⟩ := blk3 HZ.out
  refine bodyPost_ret (v := .tuple #[lossZero, .int .i64 16]) (by simp [results, Tryz.results31, go_sem, lossZero, z0, z1, z2]) rfl ?_
  exact ⟨HXZ.out, Or.inl ⟨by rw [HQ.out]; decide, by rw [HQ.out]⟩⟩
 have HQ := hI (show R = 0 by rw [HR4.out]; rfl)
 have hmm := @run_makeMap Tryz.prog
 have HM0 := hI (MapAt.made w4 9)
 have HX0 := hI ((Ext.refl w4).alloc (.map #[] 0))
 obtain ⟨bf, hbf⟩ : ∃ bf : Nat, bf = w4.heap.size := ⟨_, rfl⟩
 have HBF := hI hbf
 have HBW := hI (show w.heap.size + 1 + 1 < bf by rw [hbf]; exact blk_lt HB24.out)
 go_wp2_with fail
 rw [<- hbf]
 rw [<- hbf] at HM0
 clear hbf hmm
 go_loopw [47] (fun i wr => ∃ (k : Nat) (g : ByteArray -> Option Value), k <= n /\ i = .int .i64 k /\ MapAt wr 9 bf k (strF g) /\ DefsG w (l.take k) g /\ wr.heap[w.heap.size]? = some (.cells #[.slice sa sn sc] 31 (0, 0)) /\ wr.heap[w.heap.size + 1 + 1]? = some (.cells #[.slice none 0 0, .map none, .slice none 0 0] 71 (0, 0)) /\ Ext w wr) (fun i _ => n - (intOf i).toNat)
 case atStart =>
  refine ⟨0, fun _ => none, by omega, rfl, HM0.out.congr fun x => ?_, fun s => ⟨fun _ => rfl, fun d hd => ?_⟩, HX0.out.blk HB04.out, HX0.out.blk HB24.out, HX4.out.trans HX0.out⟩
  ·cases x <;> simp [strF]
  ·simp [defAt] at hd
 case round =>
  obtain ⟨k, g, hk, rfl, hmap, hg, hb0, hb2, hx⟩ := hrel
  have HMP := hI hmap
  have HX := hI hx
  have HG := hI hg
  have HBA := hI hb0
  have HBC := hI hb2
  have hbw := hmap.lt
  clear hmap hx hg HM0 HX0 hb0 hb2
  by_cases hlt : k < n
  ·have hlt' : k < l.length := by have := HN.out; omega
   have t1 : decide ((k : Int) < (n : Int)) = true := decide_eq_true (by omega)
   obtain ⟨cb, coff, v, rfl, hcla, hrow⟩ := HL.out.at hlt'
   obtain ⟨c0, c1, c2, c3, c4, c5, c6, c7, c8, c9⟩ := (hrow.mono HX.out.sub).ten
   have hns : v.name.size <= 1000000000000000 := by rw [hcla.2.1]; exact HSZ.out _ (List.getElem_mem hlt')
   have hblt := block_lt c0
   simp only at hblt
   have HEXV := hI (show IsEx w l[k].cond (.agg #[.int .i64 v.x.op, .string v.x.name, .slice v.x.aw v.x.nw v.x.cw, .int .i64 v.x.lo, .int .i64 v.x.hi, .slice v.x.aa v.x.na v.x.ca]) from hcla.2.2.1)
   have HEK := hI (show l[k].kind = v.kind from hcla.1.symm)
   have HEN := hI (show l[k].name = v.name from hcla.2.1.symm)
   have HFR := hI (HCK.out.fresh hlt')
   rw [HEN.out] at HFR
   have HST := hI (fun h1 h2 => HG.out.step hlt' h1 h2 HEXV.out)
   have HSK := hI (HG.out.skip hlt')
   rw [HEK.out, HEN.out] at HST HSK
   clear hcla hrow
   cases hkd : (v.kind == 1)
   ·have HKN := hI (HSK.out (Or.inl (by simpa using hkd)))
    go_wp2_with fail
    go_roundw
    case rel =>
     have hxa := (Ext.refl wr).alloc (.cells #[.int .i64 v.kind, .string v.name, .int .i64 v.x.op, .string v.x.name, .slice v.x.aw v.x.nw v.x.cw, .int .i64 v.x.lo, .int .i64 v.x.hi, .slice v.x.aa v.x.na v.x.ca, .slice v.au v.nu v.cu, .int .i64 v.amount] 67)
     exact ⟨k + 1, g, by omega, by go_num, (HMP.out.ext hxa).more (by omega), HKN.out, hxa.blk HBA.out, hxa.blk HBC.out, HX.out.trans hxa⟩
    case measure => simp [intOf]; omega
   ·have HKN := hI (HST.out (by simpa using hkd) HFR.out)
    go_wp2_with (at_mapUpdate; refine wpList_map_put _ rfl _ _ _ 69 rfl 9 26 keyedStr uMapSE bf k _ rfl (HMP.out.ext ((Ext.refl wr).alloc _)) ?c3 _ _ _ rfl rfl (keyStr hns) trivial ?_)
    case c3 => unfold maxLen; omega
    intro w6 hm1 hc1
    have hxa := (Ext.refl wr).alloc (.cells #[.int .i64 v.kind, .string v.name, .int .i64 v.x.op, .string v.x.name, .slice v.x.aw v.x.nw v.x.cw, .int .i64 v.x.lo, .int .i64 v.x.hi, .slice v.x.aa v.x.na v.x.ca, .slice v.au v.nu v.cu, .int .i64 v.amount] 67)
    have hxm : Ext w w6 := hc1.ext (HX.out.trans hxa) (fun y hy => by simp only [List.mem_singleton] at hy; have := HBW.out; omega)
    have HB06 := hI (hc1.blk (hxa.blk HBA.out) (by have := HBW.out; simp; omega))
    have HB26 := hI (hc1.blk (hxa.blk HBC.out) (by have := HBW.out; simp; omega))
    have HM1 := hI (hm1.congr (setF_str g v.name _))
    have HX1 := hI hxm
    clear hm1 hc1 hxa hxm
    go_wp2_with fail
    go_roundw
    case rel => exact ⟨k + 1, _, by omega, by go_num, HM1.out, HKN.out, HB06.out, HB26.out, HX1.out⟩
    case measure => simp [intOf]; omega
  ·have t1 : decide ((k : Int) < (n : Int)) = false := decide_eq_false (by omega)
   have HKN := hI (show k = n by omega)
   obtain ⟨e0, ef⟩ := blk1 HBA.out
   obtain ⟨r0, r1, r2, rf⟩ := blk3 HBC.out
   go_wp2_with fail
   obtain ⟨wz, hwz⟩ : ∃ wz, wz = put3 wr (w.heap.size + 1 + 1) (.slice sa sn sc) (.map (some bf)) (.slice fa fn fc) := ⟨_, rfl⟩
   have HZ := hI (show wz.heap[w.heap.size + 1 + 1]? = some (.cells #[.slice sa sn sc, .map (some bf), .slice fa fn fc] 71 (0, 0)) by rw [hwz]; exact put3_blk HBC.out _ _ _)
   have hcz : Chg [w.heap.size + 1 + 1] wr wz := by rw [hwz]; exact put3_chg wr (w.heap.size + 1 + 1) (.slice sa sn sc) (.map (some bf)) (.slice fa fn fc) (by simp)
   have HXZ := hI (hcz.ext HX.out (fun y hy => by simp only [List.mem_singleton] at hy; omega))
   have HLZ := hI (show IsLoss wz s l f ⟨sa, sn, sc, bf, fa, fn, fc⟩ n from ⟨HS.out.ext HXZ.out, by
    exact ⟨g, by rw [<- HKN.out]; exact HMP.out.chg hcz (by have := HBW.out; simp; omega), by have := HG.out.ext HXZ.out; rwa [List.take_of_length_le (by have := HN.out; omega)] at this⟩, HI.out.ext HXZ.out⟩)
   unfold put3 at hwz
   rw [<- hwz]
   clear hwz hcz
   obtain ⟨z0, z1, z2, zf⟩ := blk3 HZ.out
   refine bodyPost_ret (v := .tuple #[LossV.val ⟨sa, sn, sc, bf, fa, fn, fc⟩, .int .i64 0]) (by simp [results, Tryz.results31, go_sem, LossV.val, z0, z1, z2]) rfl ?_
   exact ⟨HXZ.out, Or.inr ⟨by rw [HQ.out], _, rfl, HLZ.out⟩⟩
open Go.RowKit Go.Maps
theorem node_kinds {s : List Attr} {l : List Cla} (hc : Chk s l) {e : Ex} (ht : okTree e) (h : nodesErr s l e = 0) : ((e.op ≠ 6 /\ e.op ≠ 7 /\ e.op ≠ 8) /\ (e.op = 3 -> defAt l e.name = none)) \/ (e.op = 3 /\ attrAt s e.name = none /\ ∃ d, defAt l e.name = some d) \/ (e.op = 6 /\ e.args.length = 1) \/ e.op = 7 \/ e.op = 8 := by
 rcases node_ways ht h with h1 | h1 | ⟨h1, i, h2, -⟩ | ⟨h1, h3, d, h2⟩ | ⟨h1, i, h2, h3⟩ | ⟨h1, i, h2, -⟩ | ⟨h1, h2⟩ | h1 | h1
 ·exact Or.inl ⟨by omega, fun h => by omega⟩
 ·exact Or.inl ⟨by omega, fun h => by omega⟩
 ·refine Or.inl ⟨by omega, fun _ => ?_⟩
  cases hd : defAt l e.name with
  | none => rfl
  | some d => rw [hc.apart hd] at h2; cases h2
 ·exact Or.inr (Or.inl ⟨h1, h3, d, h2⟩)
 ·exact Or.inl ⟨by omega, fun h => by omega⟩
 ·exact Or.inl ⟨by omega, fun h => by omega⟩
 ·exact Or.inr (Or.inr (Or.inl ⟨h1, h2⟩))
 ·exact Or.inr (Or.inr (Or.inr (Or.inl h1)))
 ·exact Or.inr (Or.inr (Or.inr (Or.inr h1)))
open Go.RowKit
section
variable {P : Program} {ops : Array Oper} {Q : Exit -> Act -> World -> Prop} {a : Act} {m : Nat} (Kp : List Nat) (G : List Nat -> (Nat -> Value) -> World -> Prop) (E : Nat -> World -> World -> Prop) (R : Nat -> Value -> World -> Prop)
theorem wpAny_growS {n : Nat} (hok : okGrowG ops m n = true) (hN : n <= a.tmps.size) (sk : Nat -> Bool) (hSg : ∀ i o, i < m -> sk i = true -> ops[i]? = some o -> o.guard ≠ none) (hGd : ∀ i o j b, i < m -> ops[i]? = some o -> o.guard = some (j, b) -> ∀ v W, R j v W -> if sk i = true then v ≠ .bool b else v = .bool b) (hsk : ∀ i, i < m -> sk i = true -> ∀ L vs W, i ∉ L -> G L vs W -> E i W W /\ G (L ++ [i]) (upd vs i undef) W /\ R i undef W) (hRE : ∀ i k v W W', i < m -> k < m -> i ≠ k -> outlastsG ops m Kp i k = true -> R i v W -> E k W W' -> R i v W')
  (hstep : ∀ i o, i < m -> sk i = false -> ops[i]? = some o -> ∀ L vs W, i ∉ L -> (∀ j ∈ L, comesAfter ops m j i = false) -> G L vs W -> (∀ e ∈ o.after, isDataG e = true -> R e.on (vs e.on) W) -> ∀ ρ, Sees ops a m vs ρ -> GivesOp P o ρ W (fun v W' => E i W W' /\ G (L ++ [i]) (upd vs i v) W' /\ R i v W'))
  (hend : ∀ L vs W, (∀ j, j < m -> j ∈ L) -> G L vs W -> (∀ j ∈ Kp, j < m -> R j (vs j) W) -> if m = ops.size then Q .normal (acts ops a vs (List.range m)) W else wpOp P ops Q m (fun a w => Q .normal a w) (acts ops a vs (List.range m)) W) :
  ∀ (fuel : Nat) (L : List Nat) (vs : Nat -> Value) (W : World) (listed : Array Bool), listed.size = ops.size -> (∀ j, j < ops.size -> (listed.getD j true = true ↔ j ∈ L)) -> L.Nodup -> (∀ j ∈ L, j < m) -> ((List.range ops.size).filter (fun j => !L.contains j)).length <= fuel -> G L vs W -> (∀ i ∈ L, ∀ o, ops[i]? = some o -> ∀ e ∈ o.after, Region.binds .any e = true -> e.on ∈ L) -> (∀ j ∈ L, (j ∈ Kp \/ ∃ c, c < m /\ c ∉ L /\ looksToG ops c j = true) -> R j (vs j) W) ->
   wpAny P .any ops Q fuel listed (acts ops a vs L) W := by
 obtain ⟨hns, hm1, hm2, hda, hspec⟩ := okGrow_specG hok
 have hperm : ∀ L : List Nat, L.Nodup -> (∀ j ∈ L, j < m) -> (∀ j, j < m -> j ∈ L) -> L.Perm (List.range m) := fun L h1 h2 h3 =>
  (List.perm_ext_iff_of_nodup h1 List.nodup_range).2 (fun j => ⟨fun h => by simpa using h2 j h, fun h => h3 j (by simpa using h)⟩)
 -- all below m are listed if none of them is ready
 have hall : ∀ (L : List Nat) (listed : Array Bool), listed.size = ops.size -> (∀ j, j < ops.size -> (listed.getD j true = true ↔ j ∈ L)) -> (∀ j ∈ Region.ready .any ops listed, ¬ j < m) -> ∀ j, j < m -> j ∈ L := by
  intro L listed hsz hL hr j
  induction j using Nat.strongRecOn with
  | _ j ih =>
   intro hj
   by_cases hjL : j ∈ L
   ·exact hjL
   ·exfalso
    refine hr j ?_ hj
    have hjs : j < ops.size := by omega
    rw [mem_ready]
    obtain ⟨o, ho⟩ : ∃ o, ops[j]? = some o := ⟨ops[j], Array.getElem?_eq_getElem hjs⟩
    refine ⟨?_, o, ho, fun e he hb => ?_⟩
    ·cases hx : listed.getD j true
     ·rfl
     ·exact absurd ((hL j hjs).1 hx) hjL
    ·have hlt := ((hspec j o ho).2.1 e he).1 hb
     have hm := ih e.on hlt (by omega)
     have := (hL e.on (by omega)).2 hm
     have hin : e.on < listed.size := by rw [hsz]; omega
     simpa [Array.getD, hin] using this
 -- what is asked when all below m are listed
 have hfin : ∀ (L : List Nat) (vs : Nat -> Value) (W : World), L.Nodup -> (∀ j ∈ L, j < m) -> (∀ j, j < m -> j ∈ L) -> G L vs W -> (∀ j ∈ L, (j ∈ Kp \/ ∃ c, c < m /\ c ∉ L /\ looksToG ops c j = true) -> R j (vs j) W) ->
   if m = ops.size then Q .normal (acts ops a vs L) W else wpOp P ops Q m (fun a w => Q .normal a w) (acts ops a vs L) W := by
  intro L vs W hnd hLm hcov hE hR
  rw [acts_perm hda (hperm L hnd hLm hcov)]
  exact hend L vs W hcov hE (fun j hk hj => hR j (hcov j hj) (Or.inl hk))
 intro fuel
 induction fuel with
 | zero =>
  intro L vs W listed hsz hL hnd hLm hlen hE hcl hR
  have hcov : ∀ j, j < ops.size -> j ∈ L := fun j hj => by
   have h0 := List.eq_nil_of_length_eq_zero (Nat.le_zero.1 hlen)
   have : j ∉ (List.range ops.size).filter (fun j => !L.contains j) := by rw [h0]; simp
   simpa [hj] using this
  have hmn : m = ops.size := by
   rcases Nat.lt_or_ge m ops.size with h | h
   ·have := hLm m (hcov m h); omega
   ·omega
  have hf := hfin L vs W hnd hLm (fun j hj => hcov j (by omega)) hE hR
  rw [if_pos hmn] at hf
  refine ⟨?_, hf⟩
  rw [List.eq_nil_iff_forall_not_mem]
  intro j hj
  obtain ⟨h0, o, ho, _⟩ := mem_ready.1 hj
  have := (hL j (Array.getElem?_eq_some_iff.1 ho).1).2 (hcov j (Array.getElem?_eq_some_iff.1 ho).1)
  rw [this] at h0; cases h0
 | succ fuel ih =>
  intro L vs W listed hsz hL hnd hLm hlen hE hcl hR
  refine ⟨fun hr => ?_, fun i hi => ?_⟩
  ·have hcov := hall L listed hsz hL (by rw [hr]; simp)
   have hf := hfin L vs W hnd hLm hcov hE hR
   by_cases hmn : m = ops.size
   ·rw [if_pos hmn] at hf; exact hf
   ·exfalso
    have hms : m < ops.size := by omega
    have : m ∈ Region.ready .any ops listed := by
     rw [mem_ready]
     obtain ⟨o, ho⟩ : ∃ o, ops[m]? = some o := ⟨ops[m], Array.getElem?_eq_getElem hms⟩
     refine ⟨?_, o, ho, fun e he hb => ?_⟩
     ·cases hx : listed.getD m true
      ·rfl
      ·have := hLm m ((hL m hms).1 hx); omega
     ·have hlt := ((hspec m o ho).2.1 e he).1 hb
      have := (hL e.on (by omega)).2 (hcov e.on hlt)
      have hin : e.on < listed.size := by rw [hsz]; omega
      simpa [Array.getD, hin] using this
    rw [hr] at this
    simp at this
  ·obtain ⟨h0, o, ho, hdep⟩ := mem_ready.1 hi
   have his : i < ops.size := (Array.getElem?_eq_some_iff.1 ho).1
   have hiL : i ∉ L := fun h => by rw [(hL i his).2 h] at h0; cases h0
   have hdepL : ∀ e ∈ o.after, Region.binds .any e = true -> e.on ∈ L := fun e he hb => by
    have h1 := hdep e he hb
    have hlt := ((hspec i o ho).2.1 e he).1 hb
    have hin : e.on < listed.size := by rw [hsz]; omega
    exact (hL e.on (by omega)).1 (by simpa [Array.getD, hin] using h1)
   have hlist : ∀ j, j < ops.size -> ((listed.setIfInBounds i true).getD j true = true ↔ j ∈ L ++ [i]) := fun j hj => by
    by_cases hij : i = j
    ·subst hij; simp [hsz, his]
    ·rw [getD_set_ne true hij, hL j hj]; simp; intro e; exact absurd e.symm hij
   by_cases him : i < m
   ·-- one of the operations that make memory
    have hnc : ∀ j ∈ L, comesAfter ops m j i = false := fun j hj => by
     cases hx : comesAfter ops m j i
     ·rfl
     ·exact absurd (comesAfter_mem hcl m j i hj hx) hiL
    have hcont : ∀ v W', E i W W' -> G (L ++ [i]) (upd vs i v) W' -> R i v W' -> wpAny P .any ops Q fuel (listed.setIfInBounds i true) ((acts ops a vs L).put o.dst v) W' := by
     intro v W' hEW hE' hRv
     have e1 : (acts ops a vs L).put o.dst v = acts ops a (upd vs i v) (L ++ [i]) := by
      rw [acts_snoc, acts_congr (vs := upd vs i v) (vs' := vs) (fun j hj => by unfold upd; rw [if_neg (fun e => hiL (by rw [<- e]; exact hj))])]
      simp [upd, dstAt, ho]
     rw [e1]
     refine ih (L ++ [i]) (upd vs i v) W' _ (by simpa using hsz) hlist ?_ ?_ ?_ hE' ?_ ?_
     ·rw [List.nodup_append]
      exact ⟨hnd, by simp, fun x hx y hy e => by simp at hy; subst hy; subst e; exact hiL hx⟩
     ·intro j hj
      rcases List.mem_append.1 hj with h | h
      ·exact hLm j h
      ·simp at h; omega
     ·have h1 : (List.range ops.size).filter (fun j => !(L ++ [i]).contains j) = ((List.range ops.size).filter (fun j => !L.contains j)).filter (fun j => j != i) := by
       rw [List.filter_filter]
       congr 1
       funext j
       simp only [List.contains_append, Bool.not_or]
       rw [Bool.and_comm]
       congr 1
       rw [Bool.eq_iff_iff]; simp [bne]
      have h2 : (((List.range ops.size).filter (fun j => !L.contains j)).filter (fun j => j != i)).length < ((List.range ops.size).filter (fun j => !L.contains j)).length := by
       rw [List.length_filter_lt_length_iff_exists]
       exact ⟨i, by simp [his, hiL], by simp⟩
      rw [h1]; omega
     ·intro j hj o' ho' e he hb
      rcases List.mem_append.1 hj with h | h
      ·exact List.mem_append_left _ (hcl j h o' ho' e he hb)
      ·simp at h; subst h
       rw [ho] at ho'
       cases ho'
       exact List.mem_append_left _ (hdepL e he hb)
     ·intro j hj hlive
      rcases List.mem_append.1 hj with h | h
      ·have : upd vs i v j = vs j := by unfold upd; rw [if_neg (fun e => hiL (by rw [<- e]; exact h))]
       rw [this]
       have hlive' : j ∈ Kp \/ ∃ c, c < m /\ c ∉ L /\ looksToG ops c j = true := hlive.imp id (fun ⟨c, h1, h2, h3⟩ => ⟨c, h1, fun hc => h2 (List.mem_append_left _ hc), h3⟩)
       refine hRE j i _ W W' (hLm j h) him (fun e => hiL (e ▸ h)) ?_ (hR j h hlive') hEW
       unfold outlastsG
       rw [Bool.and_eq_true, Bool.not_eq_true', Bool.or_eq_true]
       refine ⟨?_, ?_⟩
       ·cases hx : comesAfter ops m j i
        ·rfl
        ·exact absurd (comesAfter_mem hcl m j i h hx) hiL
       ·rcases hlive with hk | ⟨c, h1, h2, h3⟩
        ·exact Or.inl (List.contains_iff_mem.2 hk)
        ·refine Or.inr (List.any_eq_true.2 ⟨c, by simpa using h1, ?_⟩)
         rw [h3, Bool.and_true, Bool.and_eq_true, bne_iff_ne, Bool.not_eq_true']
         refine ⟨fun e => by subst e; exact h2 (by simp), ?_⟩
         cases hx : comesAfter ops m i c
         ·rfl
         ·exact absurd (List.mem_append_left _ (comesAfter_ready hcl ho hdepL m c hx)) h2
      ·simp at h; subst h; simpa [upd] using hRv
    cases hss : sk i
    case true =>
     unfold wpOp
     simp only [ho]
     cases hgd : o.guard with
     | none => exact absurd hgd (hSg i o him hss ho)
     | some p =>
      obtain ⟨j, b⟩ := p
      obtain ⟨t, ht, htn, e, he, heD, rfl⟩ := (hspec i o ho).1 him j b hgd
      have hjL := hdepL e he (((hspec i o ho).2.1 e he).2 heD)
      have hv := hGd i o e.on b him ho hgd _ _ (hR e.on hjL (Or.inr ⟨i, him, hiL, by unfold looksToG; rw [ho]; exact Array.any_eq_true'.2 ⟨e, he, by simp [heD]⟩⟩))
      rw [if_pos hss] at hv
      rw [if_neg (by
       unfold Region.wanted
       rw [hgd]
       have hev := acts_eval_in hda (a := a) (vs := vs) hjL ht
       rw [if_pos (Nat.lt_of_lt_of_le htn hN)] at hev
       have hlt : t < (acts ops a vs L).tmps.size := by rw [acts_size]; exact Nat.lt_of_lt_of_le htn hN
       show ¬ (yielded ops (acts ops a vs L).tmps e.on == some b) = true
       simp only [Act.eval] at hev
       unfold yielded
       have hdd : (ops[e.on]?).bind (·.dst) = some t := ht
       rw [hdd]
       simp only [Option.bind_some]
       rw [Array.getD_eq_getD_getElem?, Array.getElem?_eq_getElem hlt, Option.getD_some] at hev
       rw [Array.getElem?_eq_getElem hlt, hev]
       cases hvs : vs e.on <;> simp
       intro hb
       exact hv (by rw [hvs, hb]))]
      obtain ⟨q1, q2, q3⟩ := hsk i him hss L vs W hiL hE
      exact hcont undef W q1 q2 q3
    have hg := hstep i o him hss ho L vs W hiL hnc hE (fun e he hb => hR _ (hdepL e he (((hspec i o ho).2.1 e he).2 hb)) (Or.inr ⟨i, him, hiL, by unfold looksToG; rw [ho]; exact Array.any_eq_true'.2 ⟨e, he, by simp [hb]⟩⟩)) _ (sees_acts hda a m vs)
    have hex : execOp (acts ops a vs L).eval o = execOp (acts ops a vs (List.range m)).eval o := by
     refine execOp_congr o (Region.noSelect_spec hns i o · · ho) (fun x hx => ?_)
     cases x with
     | tmp t =>
      have hlook : t ∈ o.looksAt ops := List.mem_append_left _ (List.mem_filterMap.2 ⟨.tmp t, by simpa using hx, rfl⟩)
      by_cases hex : ∃ j, j < m /\ dstAt ops j = some t
      ·obtain ⟨j, hjm, hj⟩ := hex
       obtain ⟨e, he, hb, rfl⟩ := (hspec i o ho).2.2.1 him j t hjm hj hlook
       have hjL := hdepL e he hb
       rw [acts_eval_in hda hjL hj, acts_eval_in hda (by simpa using hLm _ hjL) hj]
      ·have h1 : ∀ j, j < m -> dstAt ops j ≠ some t := fun j hjm hj => hex ⟨j, hjm, hj⟩
       rw [acts_eval_out (fun j hjL => h1 j (hLm j hjL)), acts_eval_out (fun j hjr => h1 j (by simpa using hjr))]
     | const v => rfl
     | global g => rfl
     | func f => rfl
    unfold wpOp
    simp only [ho]
    rw [if_pos (by
     unfold Region.wanted
     cases hgd : o.guard with
     | none => rfl
     | some p =>
      obtain ⟨j, b⟩ := p
      obtain ⟨t, ht, htn, e, he, heD, rfl⟩ := (hspec i o ho).1 him j b hgd
      have hjL := hdepL e he (((hspec i o ho).2.1 e he).2 heD)
      have hv := hGd i o e.on b him ho hgd _ _ (hR e.on hjL (Or.inr ⟨i, him, hiL, by unfold looksToG; rw [ho]; exact Array.any_eq_true'.2 ⟨e, he, by simp [heD]⟩⟩))
      rw [if_neg (by rw [hss]; decide)] at hv
      have hev := acts_eval_in hda (a := a) (vs := vs) hjL ht
      rw [if_pos (Nat.lt_of_lt_of_le htn hN), hv] at hev
      have hlt : t < (acts ops a vs L).tmps.size := by rw [acts_size]; exact Nat.lt_of_lt_of_le htn hN
      show (yielded ops (acts ops a vs L).tmps e.on == some b) = true
      simp only [Act.eval] at hev
      unfold yielded
      have hdd : (ops[e.on]?).bind (·.dst) = some t := ht
      rw [hdd]
      simp only [Option.bind_some]
      rw [Array.getD_eq_getD_getElem?, Array.getElem?_eq_getElem hlt, Option.getD_some] at hev
      rw [Array.getElem?_eq_getElem hlt, hev]
      simp)]
    left
    refine Oper.wp_mono ?_ (hg.wp hex)
    rintro a' W' ⟨v, rfl, hEW, hE', hRv⟩
    exact hcont v W' hEW hE' hRv
   ·-- the last one
    obtain rfl : i = m := by omega
    have hcov : ∀ j, j < i -> j ∈ L := fun j hj => by
     obtain ⟨e, he, hb, rfl⟩ := (hspec i o ho).2.2.2 rfl j hj
     exact hdepL e he hb
    have hf := hfin L vs W hnd hLm hcov hE hR
    rw [if_neg (by omega)] at hf
    refine wpOp_mono (fun a' W' hq => ?_) hf
    refine wpAny_done ?_ hq fuel
    rw [List.eq_nil_iff_forall_not_mem]
    intro j hj
    obtain ⟨h0', o', ho', _⟩ := mem_ready.1 hj
    have hjs := (Array.getElem?_eq_some_iff.1 ho').1
    have : j ∈ L ++ [i] := by
     by_cases hji : j < i
     ·exact List.mem_append_left _ (hcov j hji)
     ·have : j = i := by omega
      simp [this]
    rw [(hlist j hjs).2 this] at h0'; cases h0'
theorem wp_region_growS {id : Nat} {w : World} (hm : P.follows .mixedOrders = true) {n : Nat} (hok : okGrowG ops m n = true) (hN : n <= a.tmps.size) (sk : Nat -> Bool) (hSg : ∀ i o, i < m -> sk i = true -> ops[i]? = some o -> o.guard ≠ none) (hGd : ∀ i o j b, i < m -> ops[i]? = some o -> o.guard = some (j, b) -> ∀ v W, R j v W -> if sk i = true then v ≠ .bool b else v = .bool b) (hsk : ∀ i, i < m -> sk i = true -> ∀ L vs W, i ∉ L -> G L vs W -> E i W W /\ G (L ++ [i]) (upd vs i undef) W /\ R i undef W) (hG : G [] (fun _ => undef) w.drew) (hRE : ∀ i k v W W', i < m -> k < m -> i ≠ k -> outlastsG ops m Kp i k = true -> R i v W -> E k W W' -> R i v W')
  (hstep : ∀ i o, i < m -> sk i = false -> ops[i]? = some o -> ∀ L vs W, i ∉ L -> (∀ j ∈ L, comesAfter ops m j i = false) -> G L vs W -> (∀ e ∈ o.after, isDataG e = true -> R e.on (vs e.on) W) -> ∀ ρ, Sees ops a m vs ρ -> GivesOp P o ρ W (fun v W' => E i W W' /\ G (L ++ [i]) (upd vs i v) W' /\ R i v W'))
  (hend : ∀ L vs W, (∀ j, j < m -> j ∈ L) -> G L vs W -> (∀ j ∈ Kp, j < m -> R j (vs j) W) -> if m = ops.size then Q .normal (acts ops a vs (List.range m)) W else wpOp P ops Q m (fun a w => Q .normal a w) (acts ops a vs (List.range m)) W) :
  (Code.region id ops true).wp P Q a w := by
 refine wp_region_any hm ?_
 refine wpAny_growS Kp G E R hok hN sk hSg hGd hsk hRE hstep hend ops.size [] (fun _ => undef) _ _ (by simp) (fun j hj => ?_) List.nodup_nil (fun j hj => by simp at hj) ?_ hG (fun j hj => by simp at hj) (fun j hj => by simp at hj)
 ·simp [hj]
 ·exact Nat.le_trans (List.length_filter_le _ _) (by simp)
end
end Go.Proofs.YtpkljcgihobaiaaGreatDoor
