/-
  Texts of the claim, joined: RPfF, RPfD, RPfN, RPfA.
-/
import Derived.Test.YtpkljcgihobaiaaGreatDoorPv02
namespace Go.Proofs.YtpkljcgihobaiaaGreatDoor
set_option maxRecDepth 100000
set_option maxHeartbeats 32000000
open Go.RowKit
theorem rpf_factC {s : List Attr} {l : List Cla} {f : ZI} {g : Nat} {name : BA} {words : ZB} {lo hi : Int} {args : List Ex} {V : Bool} {w : World} {M : ZN} {a : OA} {n c : Nat} {fa : OA} {fn fc : Nat} {sa : OA} {sn sc : Nat} {aw : OA} {nw cw : Nat} {aa : OA} {na ca : Nat} {op : Int} (hv : valF s l f (g + 1) (.mk op name words lo hi args) = V) (h6 : op ≠ 6 /\ op ≠ 7 /\ op ≠ 8) (hdn : op = 3 -> defAt l name = none) (hat : op = 3 -> ∃ i, attrAt s name = some i)
  (hix : ∀ W, Ext w W -> Calls Tryz.prog 36 #[.agg #[.slice sa sn sc], .string name] W (GivesE (optV (attrAt s name)) W)) (h : RpfIn s l f g op name args lo hi V w M a n c fa fn fc sa sn sc aw nw cw aa na ca) :
  Calls Tryz.prog 16 #[.agg #[.slice sa sn sc], .slice a n c, exV op name aw nw cw lo hi aa na ca, .slice fa fn fc] w (ProveQ (pfF s l f (g + 1) (.mk op name words lo hi args)) M w) := by
 have HQ := hI (show pfF s l f (g + 1) (.mk op name words lo hi args) = .mk V (-1) [] by rw [<- hv]; exact rpf_fact h6 hdn)
 have HIX := hI hix
 have HAT := hI hat
 have H6 := hI h6
 clear hv hdn hat hix h6
 have HTR := hI h.tr
 have HARG := hI h.arg
 have HM := hI h.m
 have HX := hI h.x
 have HNA := hI h.na
 have HFE := hI h.few
 clear h
 unfold exV at *
 obtain ⟨wa, hwa⟩ : ∃ wa, wa = ((w.alloc (.cells #[.slice sa sn sc] 31)).alloc (.cells #[.int .i64 op, .string name, .slice aw nw cw, .int .i64 lo, .int .i64 hi, .slice aa na ca] 26)).alloc (.cells #[.bool false, .int .i64 0, .slice none 0 0] 40) := ⟨_, rfl⟩
 have hxa : Ext w wa := by rw [hwa]; exact (((Ext.refl _).alloc _).alloc _).alloc _
 obtain ⟨b6, hb6⟩ : ∃ b6 : Nat, b6 = w.heap.size := ⟨_, rfl⟩
 have hb0 : wa.heap[b6]? = some (.cells #[.slice sa sn sc] 31 (0, 0)) := by rw [hwa, hb6]; exact blk_alloc (blk_alloc (alloc_new w _))
 have hb1 : wa.heap[b6 + 1]? = some (.cells #[.int .i64 op, .string name, .slice aw nw cw, .int .i64 lo, .int .i64 hi, .slice aa na ca] 26 (0, 0)) := by rw [hwa, hb6]; exact blk_alloc (alloc_atR (by simp))
 have hb2 : wa.heap[b6 + 1 + 1]? = some prZero := by rw [hwa, hb6]; exact alloc_atR (by simp)
 have HXA := hI hxa
 have HB0 := hI hb0
 have HB1 := hI hb1
 have HB2 := hI hb2
 have HB6 := hI hb6
 go_enter Tryz.func16, Tryz.ntmps16
 go_upto_region 1 with fail
 rw [<- hwa, <- hb6]
 clear hwa hb6
 obtain ⟨f0, f1, f2, f3, f4, f5, ff⟩ := blk6 hb1
 obtain ⟨e0, ef⟩ := blk1 hb0
 clear hxa hb0 hb1 hb2
 go_wp2_with fail
 refine (HTR.out wa HXA.out).mono ?_
 rintro r w1 ⟨rfl, hx1⟩
 go_upto_region 2 with fail
 obtain ⟨b11, hb11⟩ : ∃ b11 : Nat, b11 = w1.heap.size := ⟨_, rfl⟩
 obtain ⟨w2, hw2⟩ : ∃ w2, w2 = w1.alloc (.cells #[.bool V, .int .i64 (-1), .slice none 0 0] 40) := ⟨_, rfl⟩
 have hx2 : Ext wa w2 := by rw [hw2]; exact hx1.alloc _
 have HP2 := hI (show w2.heap[b11]? = some (.cells #[.bool V, .int .i64 (-1), .slice none 0 0] 40 (0, 0)) by rw [hw2, hb11]; exact alloc_new w1 _)
 have hlt11 : b6 + 1 + 1 < b11 := by have := blk_lt (hx1.blk HB2.out); omega
 rw [<- hw2, <- hb11]
 clear hw2 hb11 hx1 f0 f1 f2 f3 f4 f5 ff e0 ef
 have HLT := hI hlt11
 have HX2 := hI (HXA.out.trans hx2)
 have HS2 := hI (hx2.blk HB0.out)
 have HE2 := hI (hx2.blk HB1.out)
 have HZ2 := hI (hx2.blk HB2.out)
 clear hx2 hlt11 HB0 HB1 HB2 HXA HTR
 obtain ⟨f0, f1, f2, f3, f4, f5, ff⟩ := blk6 HE2.out
 obtain ⟨e0, ef⟩ := blk1 HS2.out
 clear HARG HX HNA HFE
 have t6 : (op == 6) = false := by have := H6.out; simp [this]
 have t7 : (op == 7) = false := by have := H6.out; simp [this]
 have t8 : (op == 8) = false := by have := H6.out; simp [this]
 by_cases h3 : op = 3
 case' pos =>
  subst h3
  obtain ⟨i, hi'⟩ := HAT.out rfl
  have HI2 := hI (HIX.out w2 HX2.out)
  rw [hi', optV_some] at HI2
  clear hi' HIX t6 t7 t8
  go_wp2_with fail
  refine HI2.out.mono ?_
  rintro r W3 ⟨rfl, hx3⟩
  have HP3 := hI (hx3.blk HP2.out)
  have HZ3 := hI (hx3.blk HZ2.out)
  have HX3 := hI (HX2.out.trans hx3)
  clear hx3 f0 f1 f2 f3 f4 f5 ff e0 ef HI2
  go_upto_region 21 with fail
 case' neg =>
  have t3 : (op == 3) = false := by simp [h3]
  clear h3 HIX
  obtain ⟨W3, hW3⟩ : ∃ W3, W3 = w2 := ⟨_, rfl⟩
  have HP3 := hI (show W3.heap[b11]? = some (.cells #[.bool V, .int .i64 (-1), .slice none 0 0] 40 (0, 0)) by rw [hW3]; exact HP2.out)
  have HZ3 := hI (show W3.heap[b6 + 1 + 1]? = some prZero by rw [hW3]; exact HZ2.out)
  have HX3 := hI (show Ext w W3 by rw [hW3]; exact HX2.out)
  go_upto_region 21 with fail
  rw [<- hW3]
  clear hW3 f0 f1 f2 f3 f4 f5 ff e0 ef
 all_goals
  have HIP := hI (isPr_none (mask W3 ((b6 + 1 + 1) :: M)) V (-1))
  obtain ⟨p0, p1, p2, pf'⟩ := blk3 HP3.out
  have hz : W3.heap[b6 + 1 + 1]? = some (.cells #[.bool false, .int .i64 0, .slice none 0 0] 40 (0, 0)) := HZ3.out
  obtain ⟨r0, r1, r2, rf⟩ := blk3 hz
  have hltr := blk_lt hz
  have HZ := hI (show _ /\ _ from prove_fin (w := w) (M := M) (pv := ⟨V, -1, none, 0, 0⟩) HZ3.out (by have := HB6.out; omega) HX3.out HIP.out)
  simp only at HZ
  go_wp2_with fail
  obtain ⟨wz, hwz⟩ : ∃ wz, wz = put3 W3 (b6 + 1 + 1) (.bool V) (.int .i64 (-1)) (.slice none 0 0) := ⟨_, rfl⟩
  rw [<- hwz] at HZ
  unfold put3 at hwz
  rw [<- hwz]
  clear hwz
  obtain ⟨z0, z1, z2, zf⟩ := blk3 HZ.out.1
  refine bodyPost_ret (v := PrV.val ⟨V, -1, none, 0, 0⟩) (by simp [results, Tryz.results16, go_sem, PrV.val, z0, z1, z2]) rfl ?_
  rw [HQ.out]
  exact HZ.out.2
def rpf7R (d coff cb : Nat) (v : ClV) (w4 : World) (M : ZN) (q : Pr) (b6 b11 : Nat) (sa : OA) (sn sc : Nat) (n c : Nat) (fa : OA) (fn fc : Nat)  : Nat -> Value -> World -> Prop
 | 0, u, _ => u = .agg #[.slice sa sn sc]
 | 1, u, _ => u = .slice (some ⟨cb, coff, none⟩) n c
 | 2, u, _ => u = .slice (some ⟨cb, coff, none⟩) n c
 | 3, u, _ => u = .int .i64 ((d : Nat) : Int)
 | 4, u, _ => u = .pointer (some ⟨cb, coff + d * 10, none⟩)
 | 5, u, _ => u = .pointer (some ⟨cb, coff + d * 10 + 2, none⟩)
 | 6, u, _ => u = .agg #[.int .i64 v.x.op, .string v.x.name, .slice v.x.aw v.x.nw v.x.cw, .int .i64 v.x.lo, .int .i64 v.x.hi, .slice v.x.aa v.x.na v.x.ca]
 | 7, u, _ => u = .slice fa fn fc
 | 8, u, W => ∃ (qv : PrV), u = .agg #[.bool qv.value, .int .i64 qv.pick, .slice qv.a qv.n qv.c] /\ IsPr (mask W ((b6 + 1 + 1) :: b11 :: M)) q qv
 | 9, u, W => ∃ (qv : PrV) (y : Nat), u = .slice (some ⟨y, 0, none⟩) 1 1 /\ (W.heap[y]? = some (.cells #[.bool qv.value, .int .i64 qv.pick, .slice qv.a qv.n qv.c] 40 (0, 0)) /\ w4.heap.size <= y /\ IsPr (mask W ((b6 + 1 + 1) :: b11 :: M)) q qv)
 | _, u, _ => u = .pointer (some ⟨b11, 2, none⟩)
theorem rpf_defC {s : List Attr} {l : List Cla} {f : ZI} {g : Nat} {name : BA} {words : ZB} {lo hi : Int} {args : List Ex} {V : Bool} {w : World} {M : ZN} {a : OA} {n c : Nat} {fa : OA} {fn fc : Nat} {sa : OA} {sn sc : Nat} {aw : OA} {nw cw : Nat} {aa : OA} {na ca : Nat} {d : Nat} (hv : valF s l f (g + 1) (.mk 3 name words lo hi args) = V) (hdf : defAt l name = some d) (hat : attrAt s name = none)
  (hix : ∀ W, Ext w W -> Calls Tryz.prog 36 #[.agg #[.slice sa sn sc], .string name] W (GivesE (optV (attrAt s name)) W)) (hcl : IsClas w l a n c)
  (hfi : ∀ W, Ext w W -> Calls Tryz.prog 37 #[.slice a n c, .string name] W (GivesE (optV (defAt l name)) W))
  (hdef : ∀ (xv : Value) (N : ZN) (W : World), Ext w W -> (∀ y ∈ N, y < W.heap.size) -> IsEx W (l.getD d cla0).cond xv -> Calls Tryz.prog 16 #[.agg #[.slice sa sn sc], .slice a n c, xv, .slice fa fn fc] W (ProveQ (pfF s l f g (l.getD d cla0).cond) N W))
  (h : RpfIn s l f g 3 name args lo hi V w M a n c fa fn fc sa sn sc aw nw cw aa na ca) :
  Calls Tryz.prog 16 #[.agg #[.slice sa sn sc], .slice a n c, exV 3 name aw nw cw lo hi aa na ca, .slice fa fn fc] w (ProveQ (pfF s l f (g + 1) (.mk 3 name words lo hi args)) M w) := by
 have HQ := hI (show pfF s l f (g + 1) (.mk 3 name words lo hi args) = .mk V (-1) [pfF s l f g (l.getD d cla0).cond] by rw [<- hv]; exact rpf_def hdf)
 have HDL := hI (defAt_atK hdf).1
 have HFI := hI hfi
 have HDF := hI hdf
 have HAT := hI hat
 have HIX := hI hix
 have HCL := hI hcl
 have HDE := hI hdef
 have hdn : d < n := by have := hcl.len; have := HDL.out; omega
 clear hv hdf hfi hat hix hcl hdef
 have HTR := hI h.tr
 have HARG := hI h.arg
 have HM := hI h.m
 have HX := hI h.x
 have HNA := hI h.na
 have HFE := hI h.few
 clear h
 unfold exV at *
 obtain ⟨wa, hwa⟩ : ∃ wa, wa = ((w.alloc (.cells #[.slice sa sn sc] 31)).alloc (.cells #[.int .i64 3, .string name, .slice aw nw cw, .int .i64 lo, .int .i64 hi, .slice aa na ca] 26)).alloc (.cells #[.bool false, .int .i64 0, .slice none 0 0] 40) := ⟨_, rfl⟩
 have hxa : Ext w wa := by rw [hwa]; exact (((Ext.refl _).alloc _).alloc _).alloc _
 obtain ⟨b6, hb6⟩ : ∃ b6 : Nat, b6 = w.heap.size := ⟨_, rfl⟩
 have hb0 : wa.heap[b6]? = some (.cells #[.slice sa sn sc] 31 (0, 0)) := by rw [hwa, hb6]; exact blk_alloc (blk_alloc (alloc_new w _))
 have hb1 : wa.heap[b6 + 1]? = some (.cells #[.int .i64 3, .string name, .slice aw nw cw, .int .i64 lo, .int .i64 hi, .slice aa na ca] 26 (0, 0)) := by rw [hwa, hb6]; exact blk_alloc (alloc_atR (by simp))
 have hb2 : wa.heap[b6 + 1 + 1]? = some prZero := by rw [hwa, hb6]; exact alloc_atR (by simp)
 have HXA := hI hxa
 have HB0 := hI hb0
 have HB1 := hI hb1
 have HB2 := hI hb2
 have HB6 := hI hb6
 go_enter Tryz.func16, Tryz.ntmps16
 go_upto_region 1 with fail
 rw [<- hwa, <- hb6]
 clear hwa hb6
 obtain ⟨f0, f1, f2, f3, f4, f5, ff⟩ := blk6 hb1
 obtain ⟨e0, ef⟩ := blk1 hb0
 clear hxa hb0 hb1 hb2
 go_wp2_with fail
 refine (HTR.out wa HXA.out).mono ?_
 rintro r w1 ⟨rfl, hx1⟩
 go_upto_region 2 with fail
 obtain ⟨b11, hb11⟩ : ∃ b11 : Nat, b11 = w1.heap.size := ⟨_, rfl⟩
 obtain ⟨w2, hw2⟩ : ∃ w2, w2 = w1.alloc (.cells #[.bool V, .int .i64 (-1), .slice none 0 0] 40) := ⟨_, rfl⟩
 have hx2 : Ext wa w2 := by rw [hw2]; exact hx1.alloc _
 have HP2 := hI (show w2.heap[b11]? = some (.cells #[.bool V, .int .i64 (-1), .slice none 0 0] 40 (0, 0)) by rw [hw2, hb11]; exact alloc_new w1 _)
 have hlt11 : b6 + 1 + 1 < b11 := by have := blk_lt (hx1.blk HB2.out); omega
 rw [<- hw2, <- hb11]
 clear hw2 hb11 hx1 f0 f1 f2 f3 f4 f5 ff e0 ef
 have HLT := hI hlt11
 have HX2 := hI (HXA.out.trans hx2)
 have HS2 := hI (hx2.blk HB0.out)
 have HE2 := hI (hx2.blk HB1.out)
 have HZ2 := hI (hx2.blk HB2.out)
 clear hx2 hlt11 HB0 HB1 HB2 HXA HTR
 obtain ⟨f0, f1, f2, f3, f4, f5, ff⟩ := blk6 HE2.out
 obtain ⟨e0, ef⟩ := blk1 HS2.out
 have HI2 := hI (HIX.out w2 HX2.out)
 rw [HAT.out, optV_none] at HI2
 clear HARG HX HNA HFE
 go_wp2_with fail
 refine HI2.out.mono ?_
 rintro r w3 ⟨rfl, hx3⟩
 have HFC := hI (HFI.out w3 (HX2.out.trans hx3))
 rw [HDF.out, optV_some] at HFC
 obtain ⟨f0, f1, f2, f3, f4, f5, ff⟩ := blk6 (hx3.blk HE2.out)
 go_wp2_with fail
 refine HFC.out.mono ?_
 rintro r w4 ⟨rfl, hx4⟩
 have hx34 := hx3.trans hx4
 have HS4 := hI (hx34.blk HS2.out)
 have HE4 := hI (hx34.blk HE2.out)
 have HP4 := hI (hx34.blk HP2.out)
 have HZ4 := hI (hx34.blk HZ2.out)
 have HX4 := hI (HX2.out.trans hx34)
 clear hx3 hx4 hx34 f0 f1 f2 f3 f4 f5 ff e0 ef HI2 HFC HS2 HE2 HP2 HZ2 HX2
 obtain ⟨f0, f1, f2, f3, f4, f5, ff⟩ := blk6 HE4.out
 obtain ⟨e0, ef⟩ := blk1 HS4.out
 obtain ⟨cb, coff, v, rfl, hcv, hrow⟩ := (HCL.out.ext HX4.out).at HDL.out
 obtain ⟨-, -, c2, c3, c4, c5, c6, c7, -, -⟩ := hrow.ten
 have M6 := hI (show IsEx w4 (l.getD d cla0).cond v.x.val by rw [getD_clK HDL.out]; exact hcv.2.2.1)
 have hHPA := fun W (hW : Ext w4 W) => HDE.out _ ((b6 + 1 + 1) :: b11 :: M) W (HX4.out.trans hW) (fun z hz => by
  have h1 := HLT.out; have h2 := HB6.out; have h3 := hW.size; have h4 := blk_lt HP4.out; have h5 := HM.out
  simp only [List.mem_cons] at hz
  rcases hz with rfl | rfl | hz
  ·omega
  ·omega
  have := h5 z hz; have := HX4.out.size; omega) (M6.out.ext hW)
 obtain ⟨q, hq⟩ : ∃ q, q = pfF s l f g (l.getD d cla0).cond := ⟨_, rfl⟩
 rw [<- hq] at hHPA HQ
 unfold ExV.val exV at hHPA
 have HPA := hI hHPA
 clear hq hcv hrow hHPA HDE HCL
 go_upto_region 7 with fail
 refine wp_region_growLG (n := 109) (m := 11) [9, 10] (GrGD w4) GrE (GrP (rpf7R d coff cb v w4 M q b6 b11 sa sn sc n c fa fn fc )) (by kernel_rfl) (by kernel_rfl) (Nat.le_of_ble_eq_true rfl) ?gd ((Ext.refl w4).drew) ?_ ?_ ?_
 case gd =>
  intro i o j b hi ho hg
  rcases ltc11 hi with rfl | rfl | rfl | rfl | rfl | rfl | rfl | rfl | rfl | rfl | rfl <;> (cases ho; first | (cases hg; done) | (cases hg; intro v W h; exact h))
 ·intro i k v W W' hi hk hne hout h hE
  have hE : Ext W W' := hE
  have hi' := ltc11 hi
  clear hi hk hne hout
  rcases hi' with rfl | rfl | rfl | rfl | rfl | rfl | rfl | rfl | rfl | rfl | rfl
  ·exact h
  ·exact h
  ·exact h
  ·exact h
  ·exact h
  ·exact h
  ·exact h
  ·exact h
  ·obtain ⟨qv, e0, h⟩ := h
   exact ⟨qv, e0, h.mono (mask_ext _ hE)⟩
  ·obtain ⟨qv, y, e0, h⟩ := h
   exact ⟨qv, y, e0, ⟨hE.blk h.1, h.2.1, h.2.2.mono (mask_ext _ hE)⟩⟩
  exact h
 ·intro q op hq ho L vs W hqL hcL hW hd ρ hρ
  have hq' := ltc11 hq
  clear hq
  have o4 : ρ (.tmp 4) = .pointer (some ⟨b6, 0, none⟩) := hρ.out 4 rfl
  have o1 : ρ (.tmp 1) = .slice (some ⟨cb, coff, none⟩) n c := hρ.out 1 rfl
  have o12 : ρ (.tmp 12) = .int .i64 ((d : Nat) : Int) := hρ.out 12 rfl
  have i2 := hρ.i 2 45
  have i3 := hρ.i 3 46
  have i4 := hρ.i 4 47
  have i5 := hρ.i 5 48
  have o3 : ρ (.tmp 3) = .slice fa fn fc := hρ.out 3 rfl
  have i0 := hρ.i 0 43
  have i1 := hρ.i 1 44
  have i6 := hρ.i 6 49
  have i7 := hρ.i 7 50
  have i8 := hρ.i 8 51
  have o9 : ρ (.tmp 9) = .pointer (some ⟨b11, 0, none⟩) := hρ.out 9 rfl
  have hc := hρ.const
  have hfn := hρ.func
  clear hρ
  have HG := hI hW
  have HW := hI (show Ext w4 W from hW)
  have HQL := hI hqL
  clear hW hqL hcL
  rcases hq' with rfl | rfl | rfl | rfl | rfl | rfl | rfl | rfl | rfl | rfl | rfl
  ·cases ho
   clear hd
   have g0 := HW.out.cell e0
   unfold GivesOp
   go_simp
   exact ⟨Ext.refl _, HW.out, rfl⟩
  ·cases ho
   clear hd
   unfold GivesOp
   go_simp
   exact ⟨Ext.refl _, HW.out, rfl⟩
  ·cases ho
   clear hd
   unfold GivesOp
   go_simp
   exact ⟨Ext.refl _, HW.out, rfl⟩
  ·cases ho
   clear hd
   unfold GivesOp
   go_simp
   exact ⟨Ext.refl _, HW.out, rfl⟩
  ·cases ho
   have h2 : vs 2 = _ := hd ⟨2, .data⟩ (by simp) rfl
   rw [h2] at i2
   have h3 : vs 3 = _ := hd ⟨3, .data⟩ (by simp) rfl
   rw [h3] at i3
   clear hd
   unfold GivesOp
   go_simp
   exact ⟨Ext.refl _, HW.out, rfl⟩
  ·cases ho
   have h4 : vs 4 = _ := hd ⟨4, .data⟩ (by simp) rfl
   rw [h4] at i4
   clear hd
   unfold GivesOp
   go_simp
   exact ⟨Ext.refl _, HW.out, rfl⟩
  ·cases ho
   have h5 : vs 5 = _ := hd ⟨5, .data⟩ (by simp) rfl
   rw [h5] at i5
   clear hd
   have g0 := HW.out.cell c2
   have g1 := HW.out.cell c3
   have g2 := HW.out.cell c4
   have g3 := HW.out.cell c5
   have g4 := HW.out.cell c6
   have g5 := HW.out.cell c7
   unfold GivesOp
   go_simp
   exact ⟨Ext.refl _, HW.out, rfl⟩
  ·cases ho
   clear hd
   unfold GivesOp
   go_simp
   exact ⟨Ext.refl _, HW.out, rfl⟩
  ·cases ho
   have h0 : vs 0 = _ := hd ⟨0, .data⟩ (by simp) rfl
   rw [h0] at i0
   have h1 : vs 1 = _ := hd ⟨1, .data⟩ (by simp) rfl
   rw [h1] at i1
   have h6 : vs 6 = _ := hd ⟨6, .data⟩ (by simp) rfl
   rw [h6] at i6
   have h7 : vs 7 = _ := hd ⟨7, .data⟩ (by simp) rfl
   rw [h7] at i7
   clear hd
   unfold GivesOp
   go_simp
   refine (HPA.out W HW.out).mono ?_
   rintro e5 w5 ⟨qv, rfl, hq1, hx5⟩
   exact ⟨_, rfl, hx5, HW.out.trans hx5, qv, rfl, hq1⟩
  ·cases ho
   obtain ⟨qv, h8, hs8⟩ : ∃ (qv : PrV), vs 8 = .agg #[.bool qv.value, .int .i64 qv.pick, .slice qv.a qv.n qv.c] /\ IsPr (mask W ((b6 + 1 + 1) :: b11 :: M)) q qv := hd ⟨8, .data⟩ (by simp) rfl
   have HS8 := hI hs8
   clear hs8
   rw [h8] at i8
   clear hd
   unfold GivesOp
   go_simp
   exact ⟨(Ext.refl W).alloc _, HW.out.alloc _, qv, W.heap.size, rfl, alloc_new W _, HW.out.size, HS8.out.mono (mask_ext _ ((Ext.refl W).alloc _))⟩
  cases ho
  clear hd
  unfold GivesOp
  go_simp
  exact ⟨Ext.refl _, HW.out, rfl⟩
 intro L vs W hLm hW hR
 rw [if_neg (by decide +kernel)]
 obtain ⟨qv, y, h9, hs9⟩ : ∃ (qv : PrV) (y : Nat), vs 9 = .slice (some ⟨y, 0, none⟩) 1 1 /\ (W.heap[y]? = some (.cells #[.bool qv.value, .int .i64 qv.pick, .slice qv.a qv.n qv.c] 40 (0, 0)) /\ w4.heap.size <= y /\ IsPr (mask W ((b6 + 1 + 1) :: b11 :: M)) q qv) := hR 9 (by simp) (by omega)
 have HS9 := hI hs9
 clear hs9
 have h10 : vs 10 = .pointer (some ⟨b11, 2, none⟩) := hR 10 (by simp) (by omega)
 refine wpOp_lastG rfl ?_
 change wpList _ _ _ [⟨none, .store _ (.tmp 53) (.tmp 52), _, _, _, none⟩] _ _
 simp only [acts, dstAt, List.range, List.range.loop, List.foldl_cons, List.foldl_nil, h9, h10]
 go_simp
 have hW2 : Ext w4 W := hW
 clear hR hW hLm h9 h10
 have HSX := hI HS9.out
 clear HS9 f0 f1 f2 f3 f4 f5 ff e0 ef c2 c3 c4 c5 c6 c7
 have HXW := hI hW2
 obtain ⟨W3, hW3⟩ : ∃ W3, W3 = W.setCell ⟨b11, 2, none⟩ (.slice (some ⟨y, 0, none⟩) 1 1) := ⟨_, rfl⟩
 have hpw : W.heap[b11]? = some (.cells #[.bool V, .int .i64 (-1), .slice none 0 0] 40 (0, 0)) := HXW.out.blk HP4.out
 have hc3 : Chg [b11] W W3 := by rw [hW3]; exact put_chg _ _ _ _
 have HP3 := hI (show W3.heap[b11]? = some (.cells #[.bool V, .int .i64 (-1), .slice (some ⟨y, 0, none⟩) 1 1] 40 (0, 0)) by rw [hW3]; have := put_blk (i := 2) hpw (.slice (some ⟨y, 0, none⟩) 1 1); simpa using this)
 obtain ⟨p0, p1, p2, pf'⟩ := blk3 hpw
 go_upto_region 21 with fail
 rw [<- hW3]
 clear hW3 p0 p1 p2 pf' hW2 hpw
 have hlb := blk_lt HP4.out
 have HZ3 := hI (hc3.blk (HXW.out.blk HZ4.out) (by have := HLT.out; simp; omega))
 have HX3 := hI (hc3.ext (HX4.out.trans HXW.out) (fun z hz => by simp only [List.mem_singleton] at hz; have := HLT.out; have := HB6.out; omega))
 have HY3 := hI (hc3.blk HSX.out.1 (by have := HSX.out.2.1; simp; omega))
 have HQ3 := hI (show IsPr (mask W3 ((b6 + 1 + 1) :: M)) q qv from (HSX.out.2.2.mono (mask_chg hc3 (fun z hz => by simp only [List.mem_singleton] at hz; simp [hz]))).mono (mask_less _ (fun z hz => by simp only [List.mem_cons] at hz ⊢; rcases hz with h | h <;> simp [h])))
 have hys := HSX.out.2.1
 clear hc3
 have HIP := hI (isPr_one (v := qv) (t := 40) HY3.out (fun hm => by
  have h1 := HLT.out; have h2 := HB6.out
  simp only [List.mem_cons] at hm
  rcases hm with hm | hm
  ·omega
  have := HM.out _ hm; omega) HQ3.out V (-1))
 obtain ⟨p0, p1, p2, pf'⟩ := blk3 HP3.out
 have hz : W3.heap[b6 + 1 + 1]? = some (.cells #[.bool false, .int .i64 0, .slice none 0 0] 40 (0, 0)) := HZ3.out
 obtain ⟨r0, r1, r2, rf⟩ := blk3 hz
 have hltr := blk_lt hz
 have HZ := hI (show _ /\ _ from prove_fin (w := w) (M := M) (pv := ⟨V, -1, some ⟨y, 0, none⟩, 1, 1⟩) HZ3.out (by have := HB6.out; omega) HX3.out HIP.out)
 simp only at HZ
 go_wp2_with fail
 obtain ⟨wz, hwz⟩ : ∃ wz, wz = put3 W3 (b6 + 1 + 1) (.bool V) (.int .i64 (-1)) (.slice (some ⟨y, 0, none⟩) 1 1) := ⟨_, rfl⟩
 rw [<- hwz] at HZ
 unfold put3 at hwz
 rw [<- hwz]
 clear hwz
 obtain ⟨z0, z1, z2, zf⟩ := blk3 HZ.out.1
 refine bodyPost_ret (v := PrV.val ⟨V, -1, some ⟨y, 0, none⟩, 1, 1⟩) (by simp [results, Tryz.results16, go_sem, PrV.val, z0, z1, z2]) rfl ?_
 rw [HQ.out]
 exact HZ.out.2
def rpf9R (w2 : World) (M : ZN) (q : Pr) (b6 b11 : Nat) (sa : OA) (sn sc : Nat) (a : OA) (n c : Nat) (fa : OA) (fn fc : Nat) (xb xo na ca : Nat) (x0 : Int) (x1 : BA) (aw1 : OA) (nw1 cw1 : Nat) (x5 x6 : Int) (aa1 : OA) (na1 ca1 : Nat)  : Nat -> Value -> World -> Prop
 | 0, u, _ => u = .agg #[.slice sa sn sc]
 | 1, u, _ => u = .slice a n c
 | 2, u, _ => u = .pointer (some ⟨b6 + 1, 5, none⟩)
 | 3, u, _ => u = .slice (some ⟨xb, xo, none⟩) na ca
 | 4, u, _ => u = .pointer (some ⟨xb, xo, none⟩)
 | 5, u, _ => u = .agg #[.int .i64 x0, .string x1, .slice aw1 nw1 cw1, .int .i64 x5, .int .i64 x6, .slice aa1 na1 ca1]
 | 6, u, _ => u = .slice fa fn fc
 | 7, u, W => ∃ (qv : PrV), u = .agg #[.bool qv.value, .int .i64 qv.pick, .slice qv.a qv.n qv.c] /\ IsPr (mask W ((b6 + 1 + 1) :: b11 :: M)) q qv
 | 8, u, W => ∃ (qv : PrV) (y : Nat), u = .slice (some ⟨y, 0, none⟩) 1 1 /\ (W.heap[y]? = some (.cells #[.bool qv.value, .int .i64 qv.pick, .slice qv.a qv.n qv.c] 40 (0, 0)) /\ w2.heap.size <= y /\ IsPr (mask W ((b6 + 1 + 1) :: b11 :: M)) q qv)
 | _, u, _ => u = .pointer (some ⟨b11, 2, none⟩)
theorem rpf_notC {s : List Attr} {l : List Cla} {f : ZI} {g : Nat} {name : BA} {words : ZB} {lo hi : Int} {args : List Ex} {V : Bool} {w : World} {M : ZN} {a : OA} {n c : Nat} {fa : OA} {fn fc : Nat} {sa : OA} {sn sc : Nat} {aw : OA} {nw cw : Nat} {aa : OA} {na ca : Nat} (hv : valF s l f (g + 1) (.mk 6 name words lo hi args) = V) (hl1 : args.length = 1) (h : RpfIn s l f g 6 name args lo hi V w M a n c fa fn fc sa sn sc aw nw cw aa na ca) :
  Calls Tryz.prog 16 #[.agg #[.slice sa sn sc], .slice a n c, exV 6 name aw nw cw lo hi aa na ca, .slice fa fn fc] w (ProveQ (pfF s l f (g + 1) (.mk 6 name words lo hi args)) M w) := by
 obtain ⟨a0, rfl⟩ := len_one hl1
 have HQ := hI (show pfF s l f (g + 1) (.mk 6 name words lo hi [a0]) = .mk V (-1) [pfF s l f (g + 1) a0] by rw [<- hv]; exact rpf_not)
 clear hv hl1
 have HTR := hI h.tr
 have HARG := hI h.arg
 have HM := hI h.m
 have HX := hI h.x
 have HNA := hI h.na
 have HFE := hI h.few
 clear h
 unfold exV at *
 obtain ⟨wa, hwa⟩ : ∃ wa, wa = ((w.alloc (.cells #[.slice sa sn sc] 31)).alloc (.cells #[.int .i64 6, .string name, .slice aw nw cw, .int .i64 lo, .int .i64 hi, .slice aa na ca] 26)).alloc (.cells #[.bool false, .int .i64 0, .slice none 0 0] 40) := ⟨_, rfl⟩
 have hxa : Ext w wa := by rw [hwa]; exact (((Ext.refl _).alloc _).alloc _).alloc _
 obtain ⟨b6, hb6⟩ : ∃ b6 : Nat, b6 = w.heap.size := ⟨_, rfl⟩
 have hb0 : wa.heap[b6]? = some (.cells #[.slice sa sn sc] 31 (0, 0)) := by rw [hwa, hb6]; exact blk_alloc (blk_alloc (alloc_new w _))
 have hb1 : wa.heap[b6 + 1]? = some (.cells #[.int .i64 6, .string name, .slice aw nw cw, .int .i64 lo, .int .i64 hi, .slice aa na ca] 26 (0, 0)) := by rw [hwa, hb6]; exact blk_alloc (alloc_atR (by simp))
 have hb2 : wa.heap[b6 + 1 + 1]? = some prZero := by rw [hwa, hb6]; exact alloc_atR (by simp)
 have HXA := hI hxa
 have HB0 := hI hb0
 have HB1 := hI hb1
 have HB2 := hI hb2
 have HB6 := hI hb6
 go_enter Tryz.func16, Tryz.ntmps16
 go_upto_region 1 with fail
 rw [<- hwa, <- hb6]
 clear hwa hb6
 obtain ⟨f0, f1, f2, f3, f4, f5, ff⟩ := blk6 hb1
 obtain ⟨e0, ef⟩ := blk1 hb0
 clear hxa hb0 hb1 hb2
 go_wp2_with fail
 refine (HTR.out wa HXA.out).mono ?_
 rintro r w1 ⟨rfl, hx1⟩
 go_upto_region 2 with fail
 obtain ⟨b11, hb11⟩ : ∃ b11 : Nat, b11 = w1.heap.size := ⟨_, rfl⟩
 obtain ⟨w2, hw2⟩ : ∃ w2, w2 = w1.alloc (.cells #[.bool V, .int .i64 (-1), .slice none 0 0] 40) := ⟨_, rfl⟩
 have hx2 : Ext wa w2 := by rw [hw2]; exact hx1.alloc _
 have HP2 := hI (show w2.heap[b11]? = some (.cells #[.bool V, .int .i64 (-1), .slice none 0 0] 40 (0, 0)) by rw [hw2, hb11]; exact alloc_new w1 _)
 have hlt11 : b6 + 1 + 1 < b11 := by have := blk_lt (hx1.blk HB2.out); omega
 rw [<- hw2, <- hb11]
 clear hw2 hb11 hx1 f0 f1 f2 f3 f4 f5 ff e0 ef
 have HLT := hI hlt11
 have HX2 := hI (HXA.out.trans hx2)
 have HS2 := hI (hx2.blk HB0.out)
 have HE2 := hI (hx2.blk HB1.out)
 have HZ2 := hI (hx2.blk HB2.out)
 clear hx2 hlt11 HB0 HB1 HB2 HXA HTR
 obtain ⟨f0, f1, f2, f3, f4, f5, ff⟩ := blk6 HE2.out
 obtain ⟨e0, ef⟩ := blk1 HS2.out
 have hnp : 0 < na := by have := HNA.out; simp at this; omega
 obtain ⟨xb, xo, rfl, aw1, nw1, cw1, aa1, na1, ca1, g0, g1, g2, g3, g4, g5, m6⟩ := ExsD.at [a0] _ (ExsD.ext HX2.out [a0] _ HX.out) 0 (by simp)
 simp only [Nat.zero_mul, Nat.add_zero, List.getElem_cons_zero] at g0 g1 g2 g3 g4 g5 m6
 have M6 := hI m6
 have hHPA := fun W (hW : Ext w2 W) => HARG.out 0 (by simp) _ ((b6 + 1 + 1) :: b11 :: M) W (HX2.out.trans hW) (fun z hz => by
  have h1 := HLT.out; have h2 := HB6.out; have h3 := hW.size; have h4 := blk_lt HP2.out; have h5 := HM.out
  simp only [List.mem_cons] at hz
  rcases hz with rfl | rfl | hz
  ·omega
  ·omega
  have := h5 z hz; have := HX2.out.size; omega) (M6.out.ext hW)
 simp only [List.getElem_cons_zero] at hHPA
 obtain ⟨q, hq⟩ : ∃ q, q = pfF s l f (g + 1) a0 := ⟨_, rfl⟩
 rw [<- hq] at hHPA HQ
 unfold exV at hHPA
 have HPA := hI hHPA
 obtain ⟨x0, hx0⟩ : ∃ x0, x0 = a0.op := ⟨_, rfl⟩
 obtain ⟨x1, hx1⟩ : ∃ x1, x1 = a0.name := ⟨_, rfl⟩
 obtain ⟨x5, hx5⟩ : ∃ x5, x5 = a0.lo := ⟨_, rfl⟩
 obtain ⟨x6, hx6⟩ : ∃ x6, x6 = a0.hi := ⟨_, rfl⟩
 rw [<- hx0] at g0 HPA
 rw [<- hx1] at g1 HPA
 rw [<- hx5] at g3 HPA
 rw [<- hx6] at g4 HPA
 clear hq m6 hHPA hx0 hx1 hx5 hx6 HARG
 go_upto_region 9 with fail
 refine wp_region_growLG (n := 109) (m := 10) [8, 9] (GrGD w2) GrE (GrP (rpf9R w2 M q b6 b11 sa sn sc a n c fa fn fc xb xo na ca x0 x1 aw1 nw1 cw1 x5 x6 aa1 na1 ca1 )) (by kernel_rfl) (by kernel_rfl) (Nat.le_of_ble_eq_true rfl) ?gd ((Ext.refl w2).drew) ?_ ?_ ?_
 case gd =>
  intro i o j b hi ho hg
  rcases ltc10 hi with rfl | rfl | rfl | rfl | rfl | rfl | rfl | rfl | rfl | rfl <;> (cases ho; first | (cases hg; done) | (cases hg; intro v W h; exact h))
 ·intro i k v W W' hi hk hne hout h hE
  have hE : Ext W W' := hE
  have hi' := ltc10 hi
  clear hi hk hne hout
  rcases hi' with rfl | rfl | rfl | rfl | rfl | rfl | rfl | rfl | rfl | rfl
  ·exact h
  ·exact h
  ·exact h
  ·exact h
  ·exact h
  ·exact h
  ·exact h
  ·obtain ⟨qv, e0, h⟩ := h
   exact ⟨qv, e0, h.mono (mask_ext _ hE)⟩
  ·obtain ⟨qv, y, e0, h⟩ := h
   exact ⟨qv, y, e0, ⟨hE.blk h.1, h.2.1, h.2.2.mono (mask_ext _ hE)⟩⟩
  exact h
 ·intro q op hq ho L vs W hqL hcL hW hd ρ hρ
  have hq' := ltc10 hq
  clear hq
  have o4 : ρ (.tmp 4) = .pointer (some ⟨b6, 0, none⟩) := hρ.out 4 rfl
  have o1 : ρ (.tmp 1) = .slice a n c := hρ.out 1 rfl
  have o6 : ρ (.tmp 6) = .pointer (some ⟨b6 + 1, 0, none⟩) := hρ.out 6 rfl
  have i2 := hρ.i 2 58
  have i3 := hρ.i 3 59
  have i4 := hρ.i 4 60
  have o3 : ρ (.tmp 3) = .slice fa fn fc := hρ.out 3 rfl
  have i0 := hρ.i 0 56
  have i1 := hρ.i 1 57
  have i5 := hρ.i 5 61
  have i6 := hρ.i 6 62
  have i7 := hρ.i 7 63
  have o9 : ρ (.tmp 9) = .pointer (some ⟨b11, 0, none⟩) := hρ.out 9 rfl
  have hc := hρ.const
  have hfn := hρ.func
  clear hρ
  have HG := hI hW
  have HW := hI (show Ext w2 W from hW)
  have HQL := hI hqL
  clear hW hqL hcL
  rcases hq' with rfl | rfl | rfl | rfl | rfl | rfl | rfl | rfl | rfl | rfl
  ·cases ho
   clear hd
   have g0 := HW.out.cell e0
   unfold GivesOp
   go_simp
   exact ⟨Ext.refl _, HW.out, rfl⟩
  ·cases ho
   clear hd
   unfold GivesOp
   go_simp
   exact ⟨Ext.refl _, HW.out, rfl⟩
  ·cases ho
   clear hd
   unfold GivesOp
   go_simp
   exact ⟨Ext.refl _, HW.out, rfl⟩
  ·cases ho
   have h2 : vs 2 = _ := hd ⟨2, .data⟩ (by simp) rfl
   rw [h2] at i2
   clear hd
   have g5 := HW.out.cell f5
   unfold GivesOp
   go_simp
   exact ⟨Ext.refl _, HW.out, rfl⟩
  ·cases ho
   have h3 : vs 3 = _ := hd ⟨3, .data⟩ (by simp) rfl
   rw [h3] at i3
   clear hd
   unfold GivesOp
   go_simp
   exact ⟨Ext.refl _, HW.out, rfl⟩
  ·cases ho
   have h4 : vs 4 = _ := hd ⟨4, .data⟩ (by simp) rfl
   rw [h4] at i4
   clear hd
   have g0 := HW.out.cell g0
   have g1 := HW.out.cell g1
   have g2 := HW.out.cell g2
   have g3 := HW.out.cell g3
   have g4 := HW.out.cell g4
   have g5 := HW.out.cell g5
   unfold GivesOp
   go_simp
   exact ⟨Ext.refl _, HW.out, rfl⟩
  ·cases ho
   clear hd
   unfold GivesOp
   go_simp
   exact ⟨Ext.refl _, HW.out, rfl⟩
  ·cases ho
   have h0 : vs 0 = _ := hd ⟨0, .data⟩ (by simp) rfl
   rw [h0] at i0
   have h1 : vs 1 = _ := hd ⟨1, .data⟩ (by simp) rfl
   rw [h1] at i1
   have h5 : vs 5 = _ := hd ⟨5, .data⟩ (by simp) rfl
   rw [h5] at i5
   have h6 : vs 6 = _ := hd ⟨6, .data⟩ (by simp) rfl
   rw [h6] at i6
   clear hd
   unfold GivesOp
   go_simp
   refine (HPA.out W HW.out).mono ?_
   rintro e5 w5 ⟨qv, rfl, hq1, hx5⟩
   exact ⟨_, rfl, hx5, HW.out.trans hx5, qv, rfl, hq1⟩
  ·cases ho
   obtain ⟨qv, h7, hs7⟩ : ∃ (qv : PrV), vs 7 = .agg #[.bool qv.value, .int .i64 qv.pick, .slice qv.a qv.n qv.c] /\ IsPr (mask W ((b6 + 1 + 1) :: b11 :: M)) q qv := hd ⟨7, .data⟩ (by simp) rfl
   have HS7 := hI hs7
   clear hs7
   rw [h7] at i7
   clear hd
   unfold GivesOp
   go_simp
   exact ⟨(Ext.refl W).alloc _, HW.out.alloc _, qv, W.heap.size, rfl, alloc_new W _, HW.out.size, HS7.out.mono (mask_ext _ ((Ext.refl W).alloc _))⟩
  cases ho
  clear hd
  unfold GivesOp
  go_simp
  exact ⟨Ext.refl _, HW.out, rfl⟩
 intro L vs W hLm hW hR
 rw [if_neg (by decide +kernel)]
 obtain ⟨qv, y, h8, hs8⟩ : ∃ (qv : PrV) (y : Nat), vs 8 = .slice (some ⟨y, 0, none⟩) 1 1 /\ (W.heap[y]? = some (.cells #[.bool qv.value, .int .i64 qv.pick, .slice qv.a qv.n qv.c] 40 (0, 0)) /\ w2.heap.size <= y /\ IsPr (mask W ((b6 + 1 + 1) :: b11 :: M)) q qv) := hR 8 (by simp) (by omega)
 have HS8 := hI hs8
 clear hs8
 have h9 : vs 9 = .pointer (some ⟨b11, 2, none⟩) := hR 9 (by simp) (by omega)
 refine wpOp_lastG rfl ?_
 change wpList _ _ _ [⟨none, .store _ (.tmp 65) (.tmp 64), _, _, _, none⟩] _ _
 simp only [acts, dstAt, List.range, List.range.loop, List.foldl_cons, List.foldl_nil, h8, h9]
 go_simp
 have hW2 : Ext w2 W := hW
 clear hR hW hLm h8 h9
 have HSX := hI HS8.out
 clear HS8 f0 f1 f2 f3 f4 f5 ff e0 ef g0 g1 g2 g3 g4 g5
 have HXW := hI hW2
 obtain ⟨W3, hW3⟩ : ∃ W3, W3 = W.setCell ⟨b11, 2, none⟩ (.slice (some ⟨y, 0, none⟩) 1 1) := ⟨_, rfl⟩
 have hpw : W.heap[b11]? = some (.cells #[.bool V, .int .i64 (-1), .slice none 0 0] 40 (0, 0)) := HXW.out.blk HP2.out
 have hc3 : Chg [b11] W W3 := by rw [hW3]; exact put_chg _ _ _ _
 have HP3 := hI (show W3.heap[b11]? = some (.cells #[.bool V, .int .i64 (-1), .slice (some ⟨y, 0, none⟩) 1 1] 40 (0, 0)) by rw [hW3]; have := put_blk (i := 2) hpw (.slice (some ⟨y, 0, none⟩) 1 1); simpa using this)
 obtain ⟨p0, p1, p2, pf'⟩ := blk3 hpw
 go_upto_region 21 with fail
 rw [<- hW3]
 clear hW3 p0 p1 p2 pf' hW2 hpw
 have hlb := blk_lt HP2.out
 have HZ3 := hI (hc3.blk (HXW.out.blk HZ2.out) (by have := HLT.out; simp; omega))
 have HX3 := hI (hc3.ext (HX2.out.trans HXW.out) (fun z hz => by simp only [List.mem_singleton] at hz; have := HLT.out; have := HB6.out; omega))
 have HY3 := hI (hc3.blk HSX.out.1 (by have := HSX.out.2.1; simp; omega))
 have HQ3 := hI (show IsPr (mask W3 ((b6 + 1 + 1) :: M)) q qv from (HSX.out.2.2.mono (mask_chg hc3 (fun z hz => by simp only [List.mem_singleton] at hz; simp [hz]))).mono (mask_less _ (fun z hz => by simp only [List.mem_cons] at hz ⊢; rcases hz with h | h <;> simp [h])))
 have hys := HSX.out.2.1
 clear hc3
 have HIP := hI (isPr_one (v := qv) (t := 40) HY3.out (fun hm => by
  have h1 := HLT.out; have h2 := HB6.out
  simp only [List.mem_cons] at hm
  rcases hm with hm | hm
  ·omega
  have := HM.out _ hm; omega) HQ3.out V (-1))
 obtain ⟨p0, p1, p2, pf'⟩ := blk3 HP3.out
 have hz : W3.heap[b6 + 1 + 1]? = some (.cells #[.bool false, .int .i64 0, .slice none 0 0] 40 (0, 0)) := HZ3.out
 obtain ⟨r0, r1, r2, rf⟩ := blk3 hz
 have hltr := blk_lt hz
 have HZ := hI (show _ /\ _ from prove_fin (w := w) (M := M) (pv := ⟨V, -1, some ⟨y, 0, none⟩, 1, 1⟩) HZ3.out (by have := HB6.out; omega) HX3.out HIP.out)
 simp only at HZ
 go_wp2_with fail
 obtain ⟨wz, hwz⟩ : ∃ wz, wz = put3 W3 (b6 + 1 + 1) (.bool V) (.int .i64 (-1)) (.slice (some ⟨y, 0, none⟩) 1 1) := ⟨_, rfl⟩
 rw [<- hwz] at HZ
 unfold put3 at hwz
 rw [<- hwz]
 clear hwz
 obtain ⟨z0, z1, z2, zf⟩ := blk3 HZ.out.1
 refine bodyPost_ret (v := PrV.val ⟨V, -1, some ⟨y, 0, none⟩, 1, 1⟩) (by simp [results, Tryz.results16, go_sem, PrV.val, z0, z1, z2]) rfl ?_
 rw [HQ.out]
 exact HZ.out.2
open Go.RowKit Go.Maps
def rpf16A (_op : Int) (b6 : Nat) (sa : OA) (sn sc : Nat) (a : OA) (n c : Nat) (fa : OA) (fn fc : Nat) (k : Nat) (_name : BA) (_aw : OA) (_nw _cw : Nat) (_lo _hi : Int) (xb xo na ca : Nat) (x0 : Int) (x1 : BA) (aw1 : OA) (nw1 cw1 : Nat) (x5 x6 : Int) (aa1 : OA) (na1 ca1 : Nat)  : Nat -> Value -> World -> Prop
 | 0, u, _ => u = .agg #[.slice sa sn sc]
 | 1, u, _ => u = .slice a n c
 | 2, u, _ => u = .pointer (some ⟨b6 + 1, 5, none⟩)
 | 3, u, _ => u = .slice (some ⟨xb, xo, none⟩) na ca
 | 4, u, _ => u = .int .i64 ((k : Nat) : Int)
 | 5, u, _ => u = .pointer (some ⟨xb, xo + k * 6, none⟩)
 | 6, u, _ => u = .agg #[.int .i64 x0, .string x1, .slice aw1 nw1 cw1, .int .i64 x5, .int .i64 x6, .slice aa1 na1 ca1]
 | 7, u, _ => u = .slice fa fn fc
 | 8, u, _ => u = u /\ True
 | _, u, _ => u = u /\ True
theorem rpf_allC {s : List Attr} {l : List Cla} {f : ZI} {g : Nat} {name : BA} {words : ZB} {lo hi : Int} {args : List Ex} {V : Bool} {w : World} {M : ZN} {a : OA} {n c : Nat} {fa : OA} {fn fc : Nat} {sa : OA} {sn sc : Nat} {aw : OA} {nw cw : Nat} {aa : OA} {na ca : Nat} {op : Int} (hop : op = 7 /\ V = true \/ op = 8 /\ V = false) (hv : valF s l f (g + 1) (.mk op name words lo hi args) = V) (h : RpfIn s l f g op name args lo hi V w M a n c fa fn fc sa sn sc aw nw cw aa na ca) :
  Calls Tryz.prog 16 #[.agg #[.slice sa sn sc], .slice a n c, exV op name aw nw cw lo hi aa na ca, .slice fa fn fc] w (ProveQ (pfF s l f (g + 1) (.mk op name words lo hi args)) M w) := by
 have HQ := hI (show pfF s l f (g + 1) (.mk op name words lo hi args) = .mk V (-1) (args.map (pfF s l f (g + 1))) from rpf_all hop hv)
 clear hv
 have HTR := hI h.tr
 have HARG := hI h.arg
 have HM := hI h.m
 have HX := hI h.x
 have HNA := hI h.na
 have HFE := hI h.few
 clear h
 unfold exV at *
 obtain ⟨wa, hwa⟩ : ∃ wa, wa = ((w.alloc (.cells #[.slice sa sn sc] 31)).alloc (.cells #[.int .i64 op, .string name, .slice aw nw cw, .int .i64 lo, .int .i64 hi, .slice aa na ca] 26)).alloc (.cells #[.bool false, .int .i64 0, .slice none 0 0] 40) := ⟨_, rfl⟩
 have hxa : Ext w wa := by rw [hwa]; exact (((Ext.refl _).alloc _).alloc _).alloc _
 obtain ⟨b6, hb6⟩ : ∃ b6 : Nat, b6 = w.heap.size := ⟨_, rfl⟩
 have hb0 : wa.heap[b6]? = some (.cells #[.slice sa sn sc] 31 (0, 0)) := by rw [hwa, hb6]; exact blk_alloc (blk_alloc (alloc_new w _))
 have hb1 : wa.heap[b6 + 1]? = some (.cells #[.int .i64 op, .string name, .slice aw nw cw, .int .i64 lo, .int .i64 hi, .slice aa na ca] 26 (0, 0)) := by rw [hwa, hb6]; exact blk_alloc (alloc_atR (by simp))
 have hb2 : wa.heap[b6 + 1 + 1]? = some prZero := by rw [hwa, hb6]; exact alloc_atR (by simp)
 have HXA := hI hxa
 have HB0 := hI hb0
 have HB1 := hI hb1
 have HB2 := hI hb2
 have HB6 := hI hb6
 go_enter Tryz.func16, Tryz.ntmps16
 go_upto_region 1 with fail
 rw [<- hwa, <- hb6]
 clear hwa hb6
 obtain ⟨f0, f1, f2, f3, f4, f5, ff⟩ := blk6 hb1
 obtain ⟨e0, ef⟩ := blk1 hb0
 clear hxa hb0 hb1 hb2
 go_wp2_with fail
 refine (HTR.out wa HXA.out).mono ?_
 rintro r w1 ⟨rfl, hx1⟩
 go_upto_region 2 with fail
 obtain ⟨b11, hb11⟩ : ∃ b11 : Nat, b11 = w1.heap.size := ⟨_, rfl⟩
 obtain ⟨w2, hw2⟩ : ∃ w2, w2 = w1.alloc (.cells #[.bool V, .int .i64 (-1), .slice none 0 0] 40) := ⟨_, rfl⟩
 have hx2 : Ext wa w2 := by rw [hw2]; exact hx1.alloc _
 have HP2 := hI (show w2.heap[b11]? = some (.cells #[.bool V, .int .i64 (-1), .slice none 0 0] 40 (0, 0)) by rw [hw2, hb11]; exact alloc_new w1 _)
 have hlt11 : b6 + 1 + 1 < b11 := by have := blk_lt (hx1.blk HB2.out); omega
 rw [<- hw2, <- hb11]
 clear hw2 hb11 hx1 f0 f1 f2 f3 f4 f5 ff e0 ef
 have HLT := hI hlt11
 have HX2 := hI (HXA.out.trans hx2)
 have HS2 := hI (hx2.blk HB0.out)
 have HE2 := hI (hx2.blk HB1.out)
 have HZ2 := hI (hx2.blk HB2.out)
 clear hx2 hlt11 HB0 HB1 HB2 HXA HTR
 obtain ⟨f0, f1, f2, f3, f4, f5, ff⟩ := blk6 HE2.out
 obtain ⟨e0, ef⟩ := blk1 HS2.out
 have t6 : (op == 6) = false := by rcases hop with ⟨rfl, -⟩ | ⟨rfl, -⟩ <;> rfl
 have t3 : (op == 3) = false := by rcases hop with ⟨rfl, -⟩ | ⟨rfl, -⟩ <;> rfl
 obtain ⟨p0, p1, p2, pf'⟩ := blk3 HP2.out
 rcases hop with ⟨hop, hV⟩ | ⟨hop, hV⟩
 case' inl => have t7 : (op == 7) = true := by rw [hop]; rfl
 case' inr =>
  have t7 : (op == 7) = false := by rw [hop]; rfl
  have t8 : (op == 8) = true := by rw [hop]; rfl
 all_goals
 clear hop
 go_upto_region 13 with fail
 clear hV f0 f1 f2 f3 f4 f5 ff e0 ef p0 p1 p2 pf'
 go_wp2_with fail
 go_loopw [15, 16] (RpL (pfF s l f (g + 1)) args V na b6 b11 M (.cells #[.slice sa sn sc] 31 (0, 0)) (.cells #[.int .i64 op, .string name, .slice aw nw cw, .int .i64 lo, .int .i64 hi, .slice aa na ca] 26 (0, 0)) w) (fun i _ _ => na - (intOf i).toNat)
 case atStart => exact ⟨0, [], .slice none 0 0, rfl, by omega, World.ownsRow_nil _ _ _ _, PrsR.nil _, HS2.out, HE2.out, HZ2.out, HP2.out, HX2.out⟩
 case round =>
  obtain ⟨k, pvs, u, rfl, hk, hown, hprs, hb0, hb1, hb2, hbp, hxr⟩ := hrel
  obtain ⟨ua, uc, hu⟩ := owns_formG hown
  subst hu
  have HOW := hI hown
  have HPRS := hI hprs
  have HC0 := hI hb0
  have HC1 := hI hb1
  have HC2 := hI hb2
  have HBP := hI hbp
  have HXR := hI hxr
  have HSZ := hI (show b11 + 1 <= wr.heap.size from blk_lt hbp)
  have hnk : na <= 1000000 := by have := HNA.out; have := HFE.out; omega
  obtain ⟨e0, ef⟩ := blk1 hb0
  obtain ⟨f0, f1, f2, f3, f4, f5, ff⟩ := blk6 hb1
  clear hown hprs hb0 hb1 hb2 hbp hxr HS2 HE2 HZ2 HP2 HX2
  by_cases hkn : k < na
  ·have hka : k < args.length := by have := HNA.out; omega
   have t1 : decide ((k : Int) < (na : Int)) = true := decide_eq_true (by omega)
   have HRO := hI (show ∀ z ∈ rowOf (.slice ua k uc), b11 + 1 <= z /\ z < wr.heap.size from fun z hz => HOW.out.lt z (mem_rowOf.1 hz))
   have HMA := hI (show ∀ y ∈ (rowOf (.slice ua k uc) ++ (b6 + 1 + 1) :: b11 :: M), y < wr.heap.size from fun z hz => by
    have h1 := HLT.out; have h2 := HB6.out; have h4 := HSZ.out; have h5 := HM.out
    simp only [List.mem_append, List.mem_cons] at hz
    rcases hz with hz | rfl | rfl | hz
    ·exact (HRO.out z hz).2
    ·omega
    ·omega
    have := h5 z hz; have := HXR.out.size; omega)
   obtain ⟨xb, xo, rfl, aw1, nw1, cw1, aa1, na1, ca1, g0, g1, g2, g3, g4, g5, m6⟩ := ExsD.at args _ (ExsD.ext HXR.out args _ HX.out) k hka
   have M6 := hI m6
   have hHPA := fun (N : ZN) W (hW : Ext wr W) hN => HARG.out k hka _ N W (HXR.out.trans hW) hN (M6.out.ext hW)
   obtain ⟨q, hq⟩ : ∃ q, q = pfF s l f (g + 1) args[k] := ⟨_, rfl⟩
   rw [<- hq] at hHPA
   have HQK := hI hq
   unfold exV at hHPA
   have HPA := hI hHPA
   obtain ⟨x0, hx0⟩ : ∃ x0, x0 = args[k].op := ⟨_, rfl⟩
   obtain ⟨x1, hx1⟩ : ∃ x1, x1 = args[k].name := ⟨_, rfl⟩
   obtain ⟨x5, hx5⟩ : ∃ x5, x5 = args[k].lo := ⟨_, rfl⟩
   obtain ⟨x6, hx6⟩ : ∃ x6, x6 = args[k].hi := ⟨_, rfl⟩
   rw [<- hx0] at g0 HPA
   rw [<- hx1] at g1 HPA
   rw [<- hx5] at g3 HPA
   rw [<- hx6] at g4 HPA
   clear hq m6 hHPA hx0 hx1 hx5 hx6
   go_upto_region 16 with fail
   refine wp_region_growLG (n := 109) (m := 10) [] (GnBx wr prZero (PdP q) (rowOf (.slice ua k uc) ++ (b6 + 1 + 1) :: b11 :: M) 8 9) GrE (GrP (rpf16A op b6 sa sn sc a n c fa fn fc k name aw nw cw lo hi xb xo na ca x0 x1 aw1 nw1 cw1 x5 x6 aa1 na1 ca1 )) (by kernel_rfl) (by kernel_rfl) (Nat.le_of_ble_eq_true rfl) ?gd gnbx_start ?_ ?_ ?_
   case gd =>
    intro i o j b hi ho hg
    rcases ltc10 hi with rfl | rfl | rfl | rfl | rfl | rfl | rfl | rfl | rfl | rfl <;> (cases ho; first | (cases hg; done) | (cases hg; intro v W h; exact h))
   ·intro i k v W W' hi hk hne hout h hE
    have hE : Ext W W' := hE
    have hi' := ltc10 hi
    clear hi hk hne hout
    rcases hi' with rfl | rfl | rfl | rfl | rfl | rfl | rfl | rfl | rfl | rfl
    ·exact h
    ·exact h
    ·exact h
    ·exact h
    ·exact h
    ·exact h
    ·exact h
    ·exact h
    ·obtain ⟨e0, h⟩ := h
     exact ⟨e0, trivial⟩
    obtain ⟨e0, h⟩ := h
    exact ⟨e0, trivial⟩
   ·intro q op hq ho L vs W hqL hcL hW hd ρ hρ
    have hq' := ltc10 hq
    clear hq
    have o4 : ρ (.tmp 4) = .pointer (some ⟨b6, 0, none⟩) := hρ.out 4 rfl
    have o1 : ρ (.tmp 1) = .slice a n c := hρ.out 1 rfl
    have o6 : ρ (.tmp 6) = .pointer (some ⟨b6 + 1, 0, none⟩) := hρ.out 6 rfl
    have i2 := hρ.i 2 84
    have o15 : ρ (.tmp 15) = .int .i64 ((k : Nat) : Int) := hρ.out 15 rfl
    have i3 := hρ.i 3 85
    have i4 := hρ.i 4 86
    have i5 := hρ.i 5 87
    have o3 : ρ (.tmp 3) = .slice fa fn fc := hρ.out 3 rfl
    have i0 := hρ.i 0 82
    have i1 := hρ.i 1 83
    have i6 := hρ.i 6 88
    have i7 := hρ.i 7 89
    have hc := hρ.const
    have hfn := hρ.func
    clear hρ
    have HG := hI hW
    have HW := hI (show Ext wr W from hW.1)
    have HQL := hI hqL
    clear hW hqL hcL
    rcases hq' with rfl | rfl | rfl | rfl | rfl | rfl | rfl | rfl | rfl | rfl
    ·cases ho
     clear hd
     have g0 := HW.out.cell e0
     unfold GivesOp
     go_simp
     exact ⟨Ext.refl W, gnbx_step (pdP_mono _) (by decide) (by decide) HG.out (Ext.refl W), rfl⟩
    ·cases ho
     clear hd
     unfold GivesOp
     go_simp
     exact ⟨Ext.refl W, gnbx_step (pdP_mono _) (by decide) (by decide) HG.out (Ext.refl W), rfl⟩
    ·cases ho
     clear hd
     unfold GivesOp
     go_simp
     exact ⟨Ext.refl W, gnbx_step (pdP_mono _) (by decide) (by decide) HG.out (Ext.refl W), rfl⟩
    ·cases ho
     have h2 : vs 2 = _ := hd ⟨2, .data⟩ (by simp) rfl
     rw [h2] at i2
     clear hd
     have g5 := HW.out.cell f5
     unfold GivesOp
     go_simp
     exact ⟨Ext.refl W, gnbx_step (pdP_mono _) (by decide) (by decide) HG.out (Ext.refl W), rfl⟩
    ·cases ho
     clear hd
     unfold GivesOp
     go_simp
     exact ⟨Ext.refl W, gnbx_step (pdP_mono _) (by decide) (by decide) HG.out (Ext.refl W), rfl⟩
    ·cases ho
     have h3 : vs 3 = _ := hd ⟨3, .data⟩ (by simp) rfl
     rw [h3] at i3
     have h4 : vs 4 = _ := hd ⟨4, .data⟩ (by simp) rfl
     rw [h4] at i4
     clear hd
     unfold GivesOp
     go_simp
     exact ⟨Ext.refl W, gnbx_step (pdP_mono _) (by decide) (by decide) HG.out (Ext.refl W), rfl⟩
    ·cases ho
     have h5 : vs 5 = _ := hd ⟨5, .data⟩ (by simp) rfl
     rw [h5] at i5
     clear hd
     have g0 := HW.out.cell g0
     have g1 := HW.out.cell g1
     have g2 := HW.out.cell g2
     have g3 := HW.out.cell g3
     have g4 := HW.out.cell g4
     have g5 := HW.out.cell g5
     unfold GivesOp
     go_simp
     exact ⟨Ext.refl W, gnbx_step (pdP_mono _) (by decide) (by decide) HG.out (Ext.refl W), rfl⟩
    ·cases ho
     clear hd
     unfold GivesOp
     go_simp
     exact ⟨Ext.refl W, gnbx_step (pdP_mono _) (by decide) (by decide) HG.out (Ext.refl W), rfl⟩
    ·cases ho
     have h0 : vs 0 = _ := hd ⟨0, .data⟩ (by simp) rfl
     rw [h0] at i0
     have h1 : vs 1 = _ := hd ⟨1, .data⟩ (by simp) rfl
     rw [h1] at i1
     have h6 : vs 6 = _ := hd ⟨6, .data⟩ (by simp) rfl
     rw [h6] at i6
     have h7 : vs 7 = _ := hd ⟨7, .data⟩ (by simp) rfl
     rw [h7] at i7
     clear hd
     unfold GivesOp
     go_simp
     obtain ⟨Y, hY1, hY2⟩ := gnbx_call (by decide) HMA.out HG.out
     refine (HPA.out (Y ++ (rowOf (.slice ua k uc) ++ (b6 + 1 + 1) :: b11 :: M)) W HW.out hY1).mono ?_
     rintro e5 w5 ⟨pv, rfl, hpv, hx5⟩
     exact ⟨_, rfl, hx5, hY2 _ _ hx5 ⟨_, rfl, hpv⟩, rfl, trivial⟩
    cases ho
    clear hd
    unfold GivesOp
    go_simp
    exact ⟨(Ext.refl W).alloc _, gnbx_alloc (pdP_mono _) (by decide) rfl HG.out, rfl, trivial⟩
   intro L vs W hLm hW hR
   rw [if_neg (by decide +kernel)]
   obtain ⟨y, h9, q1, q2, pv, h8, q3⟩ := gnbx_end (pdP_mono _) hW (hLm 8 (by omega)) (hLm 9 (by omega))
   have HYB := hI (And.intro q1 q2)
   have HPV := hI q3
   clear q1 q2 q3
   unfold PrV.val at h8
   refine wpOp_lastG rfl ?_
   change wpList _ _ _ [⟨none, .store _ (.tmp 16) (.tmp 90), _, _, _, none⟩] _ _
   simp only [acts, dstAt, List.range, List.range.loop, List.foldl_cons, List.foldl_nil, h8, h9]
   go_simp
   have hW2 : Ext wr W := hW.1
   clear hR hW hLm h8 h9
   -- x lies in its box
   obtain ⟨pb, pk, pa, pn, pc⟩ := pv
   have HPP := hI (show pb = q.value from HPV.out.parts.1)
   obtain ⟨W1, hW1⟩ : ∃ W1, W1 = put3 W y (.bool pb) (.int .i64 pk) (.slice pa pn pc) := ⟨_, rfl⟩
   have hyb : W.heap[y]? = some prZero := HYB.out.1
   have HY1 := hI (show W1.heap[y]? = some (.cells #[.bool pb, .int .i64 pk, .slice pa pn pc] 40 (0, 0)) by rw [hW1]; exact put3_blk hyb _ _ _)
   have hcy : Chg [y] W W1 := by rw [hW1]; exact put3_chg W y (.bool pb) (.int .i64 pk) (.slice pa pn pc) (by simp)
   have hys : wr.heap.size <= y := HYB.out.2
   have HXX := hI (show Ext wr W1 from hcy.ext hW2 (fun z hz => by simp only [List.mem_singleton] at hz; omega))
   have HPV1 := hI (show IsPr (mask W1 (rowOf (.slice ua k uc) ++ (b6 + 1 + 1) :: b11 :: M)) q ⟨pb, pk, pa, pn, pc⟩ from HPV.out.mono (mask_sub_mask fun k hk hn => ⟨fun hm => hn (List.mem_cons_of_mem _ hm), hcy.block k hk fun hm => hn (by simp only [List.mem_singleton] at hm; simp [hm])⟩))
   obtain ⟨u0, u1, u2, uf⟩ := blk3 hyb
   have hlty := blk_lt hyb
   clear f0 f1 f2 f3 f4 f5 ff e0 ef g0 g1 g2 g3 g4 g5 hyb hcy HPV HYB hW2
   go_upto_region 17 with fail
   unfold put3 at hW1
   rw [<- hW1]
   clear hW1 u0 u1 u2 uf hlty
   have HOW1 := hI (owns_ext HOW.out HXX.out)
   have HPRS1 := hI (HPRS.out.mono (mask_ext _ HXX.out))
   have HD0 := hI (HXX.out.blk HC0.out)
   have HD1 := hI (HXX.out.blk HC1.out)
   have HD2 := hI (HXX.out.blk HC2.out)
   have HBP1 := hI (HXX.out.blk HBP.out)
   have HX1 := hI (HXR.out.trans HXX.out)
   have HSZ1 := hI (show b11 + 1 <= W1.heap.size by have := HSZ.out; have := HXX.out.size; omega)
   clear HOW HPRS HC0 HC1 HC2 HBP HXR HXX HMA
   go_upto_region 18 with fail
   obtain ⟨w6, hw6⟩ : ∃ w6, w6 = W1.alloc (.cells #[.bool pb, .int .i64 pk, .slice pa pn pc] 40) := ⟨_, rfl⟩
   obtain ⟨u0, u1, u2, uf⟩ := blk3 HY1.out
   obtain ⟨p0, p1, p2, pf'⟩ := blk3 HBP1.out
   clear hw6
   have hsz1 : b11 + 1 <= W1.heap.size := HSZ1.out
   go_wp2_with (at_builtin; refine wpList_append_at elemPr rfl _ _ rfl (b11 + 1) _ k _ rfl HOW1.out _ 1 1 rfl ?f0 rfl ?f1 ?f2 ?f3 ?f4 ?_)
   case f0 => simp
   case f1 => simp [Value.oneCell']
   case f2 => unfold maxLen; omega
   case f3 => omega
   case f4 => omega
   intro v8 w8 hown8 hc8 hw8
   have HO8 := hI (show w8.ownsRow (b11 + 1) 40 3 v8 (k + 1) ((pvs ++ [(⟨pb, pk, pa, pn, pc⟩ : PrV)]).flatMap PrV.cells) by simpa [PrV.cells] using hown8)
   have s2 : Sub (mask W1 (rowOf (.slice ua k uc) ++ (b6 + 1 + 1) :: b11 :: M)) (mask w8 (rowOf v8 ++ (b6 + 1 + 1) :: b11 :: M)) := prv_keeps hc8 hw8
   have HP8 := hI (show PrsR (mask w8 (rowOf v8 ++ (b6 + 1 + 1) :: b11 :: M)) ((args.take (k + 1)).map (pfF s l f (g + 1))) (pvs ++ [(⟨pb, pk, pa, pn, pc⟩ : PrV)]) by
    rw [take_map_snoc hka, <- HQK.out]
    exact (HPRS1.out.mono s2).snoc (HPV1.out.mono s2))
   have hfr : ∀ z, z < b11 + 1 -> z ∉ rowOf (.slice ua k uc) := fun z hz hm => by have := (HRO.out z hm).1; omega
   have HG0 := hI (hc8.blk HD0.out (hfr _ (by have := HLT.out; omega)))
   have HG1 := hI (hc8.blk HD1.out (hfr _ (by have := HLT.out; omega)))
   have HG2 := hI (hc8.blk HD2.out (hfr _ (by have := HLT.out; omega)))
   have HGP := hI (hc8.blk HBP1.out (hfr _ (by omega)))
   have HX8 := hI (hc8.ext HX1.out (fun z hz => by have := (HRO.out z hz).1; have := HLT.out; have := HB6.out; omega))
   obtain ⟨a8, c8, hv8⟩ := owns_formG hown8
   subst hv8
   clear hown8 hc8 hw8 s2 hfr u0 u1 u2 uf p0 p1 p2 pf' hsz1
   obtain ⟨W3, hW3⟩ : ∃ W3, W3 = w8.setCell ⟨b11, 2, none⟩ (.slice a8 (k + 1) c8) := ⟨_, rfl⟩
   have hc3 : Chg [b11] w8 W3 := by rw [hW3]; exact put_chg _ _ _ _
   have HP3 := hI (show W3.heap[b11]? = some (.cells #[.bool V, .int .i64 (-1), .slice a8 (k + 1) c8] 40 (0, 0)) by rw [hW3]; have := put_blk (i := 2) HGP.out (.slice a8 (k + 1) c8); simpa using this)
   obtain ⟨p0, p1, p2, pf'⟩ := blk3 HGP.out
   go_upto_region 15 with fail
   rw [<- hW3]
   clear hW3 p0 p1 p2 pf'
   have HH0 := hI (hc3.blk HG0.out (by have := HLT.out; simp; omega))
   have HH1 := hI (hc3.blk HG1.out (by have := HLT.out; simp; omega))
   have HH2 := hI (hc3.blk HG2.out (by have := HLT.out; simp; omega))
   have HO3 := hI (owns_chg HO8.out hc3 (fun z hz hm => by simp only [List.mem_singleton] at hm; have := (HO8.out.lt z hz).1; omega))
   have HPR3 := hI (HP8.out.mono (mask_chg hc3 (fun z hz => by simp only [List.mem_singleton] at hz; simp [hz])))
   have HX3 := hI (hc3.ext HX8.out (fun z hz => by simp only [List.mem_singleton] at hz; have := HLT.out; have := HB6.out; omega))
   clear hc3
   go_wp2_with fail
   go_roundw
   case rel => exact ⟨k + 1, pvs ++ [⟨pb, pk, pa, pn, pc⟩], .slice a8 (k + 1) c8, by go_num, by omega, HO3.out, HPR3.out, HH0.out, HH1.out, HH2.out, HP3.out, HX3.out⟩
   case measure => simp [intOf]; omega
  have t1 : decide ((k : Int) < (na : Int)) = false := decide_eq_false (by omega)
  obtain rfl : k = na := by omega
  have hl0 : args.take k = args := List.take_of_length_le (by have := HNA.out; omega)
  have HIP := hI (show IsPr (mask wr ((b6 + 1 + 1) :: M)) (.mk V (-1) (args.map (pfF s l f (g + 1)))) ⟨V, -1, ua, k, uc⟩ by
   have hln : (args.map (pfF s l f (g + 1))).length = k := by simpa using HNA.out.symm
   have hos : wr.ownsRow (b11 + 1) 40 3 (.slice ua k uc) (args.map (pfF s l f (g + 1))).length (pvs.flatMap PrV.cells) := by rw [hln]; exact HOW.out
   have hps := HPRS.out
   rw [hl0] at hps
   obtain ⟨a', c', he, hip⟩ := prs_owns (M := (b6 + 1 + 1) :: M) hos (fun z hz hm => by
    have h1 := (HOW.out.lt z hz).1; have h2 := HB6.out; have h3 := HLT.out
    simp only [List.mem_cons] at hm
    rcases hm with hm | hm
    ·omega
    have := HM.out z hm; omega) (hps.mono (mask_less _ (fun z hz => by simp only [List.mem_cons, List.mem_append] at hz ⊢; rcases hz with h | h <;> simp [h]))) V (-1)
   simp only [Value.slice.injEq] at he
   obtain ⟨rfl, h2, rfl⟩ := he
   rw [<- h2] at hip
   exact hip)
  obtain ⟨W3, hW3⟩ : ∃ W3, W3 = wr := ⟨_, rfl⟩
  rw [<- hW3] at HIP HC2 HBP HXR f5 ⊢
  have HP3 := hI HBP.out
  have HZ3 := hI HC2.out
  have HX3 := hI HXR.out
  clear hW3 hl0
  obtain ⟨p0, p1, p2, pf'⟩ := blk3 HP3.out
  have hz : W3.heap[b6 + 1 + 1]? = some (.cells #[.bool false, .int .i64 0, .slice none 0 0] 40 (0, 0)) := HZ3.out
  obtain ⟨r0, r1, r2, rf⟩ := blk3 hz
  have hltr := blk_lt hz
  have HZ := hI (show _ /\ _ from prove_fin (w := w) (M := M) (pv := ⟨V, -1, ua, k, uc⟩) HZ3.out (by have := HB6.out; omega) HX3.out HIP.out)
  simp only at HZ
  go_wp2_with fail
  obtain ⟨wz, hwz⟩ : ∃ wz, wz = put3 W3 (b6 + 1 + 1) (.bool V) (.int .i64 (-1)) (.slice ua k uc) := ⟨_, rfl⟩
  rw [<- hwz] at HZ
  unfold put3 at hwz
  rw [<- hwz]
  clear hwz
  obtain ⟨z0, z1, z2, zf⟩ := blk3 HZ.out.1
  refine bodyPost_ret (v := PrV.val ⟨V, -1, ua, k, uc⟩) (by simp [results, Tryz.results16, go_sem, PrV.val, z0, z1, z2]) rfl ?_
  rw [HQ.out]
  exact HZ.out.2
end Go.Proofs.YtpkljcgihobaiaaGreatDoor
