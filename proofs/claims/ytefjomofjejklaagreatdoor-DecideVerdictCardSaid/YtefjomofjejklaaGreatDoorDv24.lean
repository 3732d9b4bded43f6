/-
  Texts of the claim, joined: DVer, ExArg, RowsArg, SchArg, ExArg2, ClaArg.
-/
import Derived.Test.YtefjomofjejklaaGreatDoorDv23
import Derived.SliceStrings
namespace Go.Proofs.YtefjomofjejklaaGreatDoor
set_option maxRecDepth 100000
set_option maxHeartbeats 32000000
open Go.RowKit
structure TwoD (w : World) (sv : Value) (la : OA) (ln lc : Nat) (fa : OA) (fn fc : Nat) (V : Value) : Prop where
 dec : ∀ W, Ext w W -> Calls Tryz.prog 13 #[sv, .slice la ln lc, .slice fa fn fc] W (GivesE V W)
 ref : ∀ W, Ext w W -> Calls Tryz.prog 14 #[sv, .slice la ln lc, .slice fa fn fc] W (GivesE V W)
theorem twoD_of (s : List Attr) (l : List Cla) (f : ZI) (sv : Value) (a : OA) (n c : Nat) (fa : OA) (fn fc : Nat) (w : World) (hs : IsSchema w s sv) (hf : ∀ x ∈ s, x.fits) (hsl : s.length <= 1000000000000000) (hl : IsClas w l a n c) (hn : n <= 1000000) (hok : ∀ x ∈ l, x.fit) (hi : IsIntF w f fa fn) (hfn : fn <= 1000000000000000) (ho : HasOps w) :
  ∃ (D : Dec) (E : Int), TwoD w sv a n c fa fn fc (.tuple #[.agg D.cells, .int .i64 E]) :=
 ⟨decD s l f, decErr s l f, fun W hW => decide_calls s l f sv a n c fa fn fc W (hs.ext hW) hf hsl (hl.ext hW) hn hok (hi.ext hW) hfn (ho.ext hW), fun W hW => rDecide_calls s l f sv a n c fa fn fc W (hs.ext hW) hf hsl (hl.ext hW) hn hok (hi.ext hW)⟩
theorem IsW12.two {w : World} {s : List Attr} {l : List Cla} {f : ZI} {v : W12} (h : IsW12 w s l f v) (ho : HasOps w) {g : ZI} {ga : OA} {gn : Nat} (gc : Nat) (hi : IsIntF w g ga gn) (hgn : gn <= 1000) : ∃ (D : Dec) (E : Int), TwoD w (.agg #[.slice v.sa v.sn v.sc]) v.la v.ln v.lc ga gn gc (.tuple #[.agg D.cells, .int .i64 E]) :=
 twoD_of s l g _ v.la v.ln v.lc ga gn gc w h.sch (attrs_fits h.mem) (by have := (schema_attrs (schema_zero h.mem)).2.1; omega) h.clas (by have := h.clas.len; have := h.len; omega) h.cfit hi (by omega) ho
theorem IsW12.fnl {w : World} {s : List Attr} {l : List Cla} {f : ZI} {v : W12} (h : IsW12 w s l f v) : v.fn <= 1000 := by
 rw [h.ints.1, factsAll_len h.facts]; exact (schemas_ok s h.mem).2.2
theorem dverdict_calls (s0 : List Attr) (sv : Value) (l0 : List Cla) (la0 : OA) (ln0 lc0 : Nat) (fa0 : OA) (fn0 fc0 : Nat) (da : OA) (dn dc : Nat) (at' z : Int) (w : World)
  (hs : IsSchema w s0 sv) (hsf : ∀ x ∈ s0, x.fits) (hsl : s0.length <= 1000000000000000) (hl : IsClas w l0 la0 ln0 lc0) (hlf : ∀ x ∈ l0, x.fit) (h1 : IntsAt w fa0 fn0) (hfn : fn0 <= 1000000000000000) (h2 : IntsAt w da dn) (hdn : dn <= 1000000000000000) (ho : HasOps w) :
  Calls Tryz.prog 3 #[sv, .slice la0 ln0 lc0, .slice fa0 fn0 fc0, .slice da dn dc, .int .i64 at', .int .i64 z] w (GivesE (.bool true) w) := by
 have HO := hI ho
 have HAW := hI (fun W (hW : Ext w W) => awake12_calls W (ho.ext hW))
 obtain ⟨f0, hf0, hfl⟩ := intsF_of h1
 obtain ⟨sa, sn, sc, rfl, hsn⟩ := hs.slice
 have HIN := hI (fun (h60 : ln0 <= 1000000) => twoD_of s0 l0 f0 _ la0 ln0 lc0 fa0 fn0 fc0 w hs hsf hsl hl h60 hlf hf0 hfn ho)
 have HMA := hI (fun W (hW : Ext w W) => made12_calls da dn dc W (fun i hi => by obtain ⟨b, off, q, e, hc⟩ := h2 i hi; exact ⟨b, off, q, e, hW.cell hc⟩) hdn)
 clear hs hsf hsl hl hlf h1 h2 hf0 ho hsn hfl
 obtain ⟨wa, hwa⟩ : ∃ wa, wa = w.alloc (.cells #[.slice sa sn sc] 24) := ⟨_, rfl⟩
 have HXA := hI (show Ext w wa by rw [hwa]; exact (Ext.refl _).alloc _)
 have HB := hI (show wa.heap[w.heap.size]? = some (.cells #[.slice sa sn sc] 24 (0, 0)) by rw [hwa]; exact alloc_new w _)
 obtain ⟨d0, df⟩ := blk1 HB.out
 go_enter Tryz.func3, Tryz.ntmps3
 go_upto_region 1 with fail
 obtain ⟨b0, hb0⟩ : ∃ b0 : Nat, b0 = w.heap.size := ⟨_, rfl⟩
 rw [<- hwa, <- hb0]
 rw [<- hb0] at d0 df HB
 clear hwa hb0
 by_cases g1 : 20 < sn
 ·have t1 : decide ((20 : Int) < (sn : Int)) = true := decide_eq_true (by omega)
  go_wp2_with fail
  refine (HAW.out wa HXA.out).mono ?_
  rintro r wz ⟨rfl, hxz⟩
  have HXZ := hI (HXA.out.trans hxz)
  clear hxz
  go_wp2_with fail
  go_ret
  exact ⟨rfl, HXZ.out⟩
 have t1 : decide ((20 : Int) < (sn : Int)) = false := decide_eq_false (by omega)
 by_cases g2 : 60 < ln0
 ·have t2 : decide ((60 : Int) < (ln0 : Int)) = true := decide_eq_true (by omega)
  go_wp2_with fail
  refine (HAW.out wa HXA.out).mono ?_
  rintro r wz ⟨rfl, hxz⟩
  have HXZ := hI (HXA.out.trans hxz)
  clear hxz
  go_wp2_with fail
  go_ret
  exact ⟨rfl, HXZ.out⟩
 have t2 : decide ((60 : Int) < (ln0 : Int)) = false := decide_eq_false (by omega)
 by_cases g3 : 50 < fn0
 ·have t3 : decide ((50 : Int) < (fn0 : Int)) = true := decide_eq_true (by omega)
  go_wp2_with fail
  refine (HAW.out wa HXA.out).mono ?_
  rintro r wz ⟨rfl, hxz⟩
  have HXZ := hI (HXA.out.trans hxz)
  clear hxz
  go_wp2_with fail
  go_ret
  exact ⟨rfl, HXZ.out⟩
 have t3 : decide ((50 : Int) < (fn0 : Int)) = false := decide_eq_false (by omega)
 obtain ⟨⟨a1, a2, a3, a4, a5, a6⟩, E0, hd0⟩ := HIN.out (by omega)
 have HT0 := hI hd0
 unfold Dec.cells at HT0
 dsimp only at HT0
 clear hd0 HIN
 go_wp2_with fail
 refine (HT0.out.dec wa HXA.out).mono ?_
 rintro r w1 ⟨rfl, hx1⟩
 go_upto_region 4 with fail
 obtain ⟨w2, hwn⟩ : ∃ w2, w2 = w1.alloc (.cells #[.int .i64 a1, .int .i64 a2, .int .i64 a3, .int .i64 a4, .int .i64 a5, .bool a6] 29) := ⟨_, rfl⟩
 have hx2 : Ext w1 w2 := by rw [hwn]; exact (Ext.refl _).alloc _
 obtain ⟨p1, hbn⟩ : ∃ p1 : Nat, p1 = w1.heap.size := ⟨_, rfl⟩
 have HP1 := hI (show w2.heap[p1]? = some (.cells #[.int .i64 a1, .int .i64 a2, .int .i64 a3, .int .i64 a4, .int .i64 a5, .bool a6] 29 (0, 0)) by rw [hwn, hbn]; exact alloc_new w1 _)
 rw [<- hwn, <- hbn]
 clear hwn hbn
 have HX2 := hI (HXA.out.trans (hx1.trans hx2))
 have HB2 := hI ((hx1.trans hx2).blk HB.out)
 clear hx1 hx2 d0 df HB HXA
 obtain ⟨d0, df⟩ := blk1 HB2.out
 go_wp2_with fail
 refine (HT0.out.ref w2 HX2.out).mono ?_
 rintro r w3 ⟨rfl, hx1⟩
 go_upto_region 5 with fail
 obtain ⟨w4, hwn⟩ : ∃ w4, w4 = w3.alloc (.cells #[.int .i64 a1, .int .i64 a2, .int .i64 a3, .int .i64 a4, .int .i64 a5, .bool a6] 29) := ⟨_, rfl⟩
 have hx2 : Ext w3 w4 := by rw [hwn]; exact (Ext.refl _).alloc _
 obtain ⟨p2, hbn⟩ : ∃ p2 : Nat, p2 = w3.heap.size := ⟨_, rfl⟩
 have HP2 := hI (show w4.heap[p2]? = some (.cells #[.int .i64 a1, .int .i64 a2, .int .i64 a3, .int .i64 a4, .int .i64 a5, .bool a6] 29 (0, 0)) by rw [hwn, hbn]; exact alloc_new w3 _)
 rw [<- hwn, <- hbn]
 clear hwn hbn
 have HX4 := hI (HX2.out.trans (hx1.trans hx2))
 have HP14 := hI ((hx1.trans hx2).blk HP1.out)
 clear hx1 hx2 d0 df HB2 HX2 HP1 HT0
 go_wp2_with fail
 refine (HMA.out w4 HX4.out).mono ?_
 rintro r w5 ⟨s, l, f, v, bd, rfl, hiw, -, hx5⟩
 have HIW := hI (hiw.mono (mask_sub _ _))
 clear hiw
 unfold W12.val
 go_upto_region 6 with fail
 obtain ⟨bw, hbw⟩ : ∃ bw : Nat, bw = w5.heap.size := ⟨_, rfl⟩
 obtain ⟨w6, hw6⟩ : ∃ w6, w6 = w5.alloc (.cells #[.slice v.sa v.sn v.sc, .slice v.la v.ln v.lc, .slice v.fa v.fn v.fc] 34) := ⟨_, rfl⟩
 have hx6 : Ext w5 w6 := by rw [hw6]; exact (Ext.refl _).alloc _
 have HBW := hI (show w6.heap[bw]? = some (.cells #[.slice v.sa v.sn v.sc, .slice v.la v.ln v.lc, .slice v.fa v.fn v.fc] 34 (0, 0)) by rw [hw6, hbw]; exact alloc_new w5 _)
 rw [<- hw6, <- hbw]
 clear hw6 hbw
 have HIW6 := hI (HIW.out.mono hx6.sub)
 have HX6 := hI (HX4.out.trans (hx5.trans hx6))
 have HP16 := hI ((hx5.trans hx6).blk HP14.out)
 have HP26 := hI ((hx5.trans hx6).blk HP2.out)
 have HO6 := hI (HO.out.ext HX6.out)
 clear hx5 hx6 HIW HX4 HP14 HP2 HMA
 obtain ⟨⟨e1, e2, e3, e4, e5, e6⟩, E1, hd1⟩ := HIW6.out.two HO6.out v.fc HIW6.out.ints HIW6.out.fnl
 have HT1 := hI hd1
 unfold Dec.cells at HT1
 dsimp only at HT1
 clear hd1
 obtain ⟨c0, c1, c2, cf⟩ := blk3 HBW.out
 go_wp2_with fail
 refine (HT1.out.dec w6 (Ext.refl _)).mono ?_
 rintro r w7 ⟨rfl, hx1⟩
 go_upto_region 7 with fail
 obtain ⟨w8, hwn⟩ : ∃ w8, w8 = w7.alloc (.cells #[.int .i64 e1, .int .i64 e2, .int .i64 e3, .int .i64 e4, .int .i64 e5, .bool e6] 29) := ⟨_, rfl⟩
 have hx2 : Ext w7 w8 := by rw [hwn]; exact (Ext.refl _).alloc _
 obtain ⟨p3, hbn⟩ : ∃ p3 : Nat, p3 = w7.heap.size := ⟨_, rfl⟩
 have HP3 := hI (show w8.heap[p3]? = some (.cells #[.int .i64 e1, .int .i64 e2, .int .i64 e3, .int .i64 e4, .int .i64 e5, .bool e6] 29 (0, 0)) by rw [hwn, hbn]; exact alloc_new w7 _)
 rw [<- hwn, <- hbn]
 clear hwn hbn
 have HX8 := hI (show Ext w6 w8 from hx1.trans hx2)
 clear hx1 hx2 c0 c1 c2 cf
 obtain ⟨c0, c1, c2, cf⟩ := blk3 (HX8.out.blk HBW.out)
 go_wp2_with fail
 refine (HT1.out.ref w8 HX8.out).mono ?_
 rintro r w9 ⟨rfl, hx1⟩
 go_upto_region 8 with fail
 obtain ⟨w10, hwn⟩ : ∃ w10, w10 = w9.alloc (.cells #[.int .i64 e1, .int .i64 e2, .int .i64 e3, .int .i64 e4, .int .i64 e5, .bool e6] 29) := ⟨_, rfl⟩
 have hx2 : Ext w9 w10 := by rw [hwn]; exact (Ext.refl _).alloc _
 obtain ⟨p4, hbn⟩ : ∃ p4 : Nat, p4 = w9.heap.size := ⟨_, rfl⟩
 have HP4 := hI (show w10.heap[p4]? = some (.cells #[.int .i64 e1, .int .i64 e2, .int .i64 e3, .int .i64 e4, .int .i64 e5, .bool e6] 29 (0, 0)) by rw [hwn, hbn]; exact alloc_new w9 _)
 rw [<- hwn, <- hbn]
 clear hwn hbn
 have HX10 := hI (show Ext w6 w10 from HX8.out.trans (hx1.trans hx2))
 have HP310 := hI ((hx1.trans hx2).blk HP3.out)
 clear hx1 hx2 c0 c1 c2 cf HX8 HP3 HT1
 obtain ⟨c0, c1, c2, cf⟩ := blk3 (HX10.out.blk HBW.out)
 have hfn5 := HIW6.out.fnl
 have HFL := hI HIW6.out.ints.1
 have hlt7 := blk_lt (HX10.out.blk HBW.out)
 go_wp2_with (at_builtin; refine wpList_append_all elemInts rfl _ _ rfl w10.heap.size _ 0 [] rfl ?o0 v.fa v.fn v.fc (f.flatMap intCells) rfl ?o1 ?o2 ?o3 ?o4 ?o5 ?o6 ?_)
 case o0 => exact World.ownsRow_lit w10 #[] 0 (Nat.le_refl _) (by simp) rfl
 case o1 => rw [HFL.out, intCells_len]; omega
 case o2 =>
  intro h
  have hflen := HFL.out
  obtain ⟨b, off, e1, -⟩ := HIW6.out.ints.2 0 (by omega)
  refine ⟨b, off, e1, fun j hj => ?_⟩
  have hj2 : j < f.length := by rw [intCells_len] at hj; exact hj
  obtain ⟨b', off', e2, hc⟩ := HIW6.out.ints.2 j hj2
  rw [e1] at e2
  simp only [Option.some.injEq, Addr.mk.injEq, and_true] at e2
  obtain ⟨rfl, rfl⟩ := e2
  have h3 := flatMap_at intCells 1 (fun _ => rfl) f j hj2 0 (by simp [intCells])
  simp only [Nat.mul_one, Nat.add_zero] at h3
  rw [(HX10.out.alloc _).cell hc]
  have h4 : (f.flatMap intCells)[j]? = some (f.flatMap intCells)[j] := List.getElem?_eq_getElem hj
  rw [<- h4, h3]; simp [intCells]
 case o3 => intro u hu; simp only [List.mem_flatMap, intCells, List.mem_singleton] at hu; obtain ⟨q, -, rfl⟩ := hu; rfl
 case o4 => omega
 case o5 => omega
 case o6 => simp
 intro v8 w11 hown8 hgr8 hat8
 obtain ⟨n7, hn7⟩ : ∃ n7 : Nat, n7 = w10.heap.size := ⟨_, rfl⟩
 have hx8 : Ext w10 w11 := Ext.grown ((Ext.refl w10).alloc (.cells #[] 3)) hgr8 (fun k hk => by simp only [Value.ownBlock] at hk; injection hk with hk; omega)
 have HX11 := hI hx8
 have hown : w11.ownsRow n7 3 1 v8 f.length (f.flatMap intCells) := by
  have h := hown8
  rw [HFL.out, <- hn7] at h
  exact h
 have hpos : 0 < f.length := by
  have h1 := factsAll_len HIW6.out.facts
  have h2 := (schema_attrs (schema_zero HIW6.out.mem)).1
  omega
 obtain ⟨g, cap, rfl, hg1, hg2, hgf, hgs⟩ := set_ints hown hpos
 have HGS := hI hgs
 have hfl := HFL.out
 obtain ⟨k8, hk8⟩ : ∃ k8 : Nat, k8 = f.length := ⟨_, rfl⟩
 rw [<- hk8]
 rw [<- hk8] at hpos
 have HK8 := hI hk8
 have hk9 : k8 <= 1000 := by omega
 have h57 := HX10.out.size
 clear hk8 hfl hown hown8 hgr8 hat8 hgs hx8 hfn5 c0 c1 c2 cf
 go_wp2_with fail
 refine (within_calls at' (k8 : Int) w11 (by omega) (by omega)).mono ?_
 rintro r wr ⟨q, rfl, hq0, hq1, rfl⟩
 obtain ⟨i, rfl⟩ : ∃ i : Nat, q = (i : Int) := ⟨q.toNat, by omega⟩
 have hik : i < k8 := by omega
 obtain ⟨hci, hseti⟩ := HGS.out i (by have := HK8.out; omega)
 have HIG := hI (hseti z)
 have HXS := hI (HX11.out.setAbove (p := ⟨g, i, none⟩) (by show w10.heap.size <= g; omega) (.int .i64 z))
 clear hseti
 go_upto_region 10 with fail
 obtain ⟨w12, hw12⟩ : ∃ w12, w12 = w11.setCell ⟨g, i, none⟩ (.int .i64 z) := ⟨_, rfl⟩
 rw [<- hw12] at HIG HXS ⊢
 clear hw12 hci hgf hg1 hg2 h57 hlt7 hn7 hq0 hq1
 have HX12 := hI (show Ext w6 w12 from HX10.out.trans HXS.out)
 have HIW12 := hI (HIW6.out.mono HX12.out.sub)
 have HO12 := hI (HO6.out.ext HX12.out)
 have HP112 := hI (HX12.out.blk HP16.out)
 have HP212 := hI (HX12.out.blk HP26.out)
 have HP312 := hI (HXS.out.blk HP310.out)
 have HP412 := hI (HXS.out.blk HP4.out)
 have HBW12 := hI (HX12.out.blk HBW.out)
 have HXW := hI (HX6.out.trans HX12.out)
 obtain ⟨⟨h1, h2, h3, h4, h5, h6⟩, E2, hd2⟩ := HIW12.out.two HO12.out cap HIG.out (by have := HK8.out; omega)
 rw [<- HK8.out] at hd2
 have HT2 := hI hd2
 unfold Dec.cells at HT2
 dsimp only at HT2
 clear hd2 HIW6 HIW12 HO6 HO12 HGS HK8 HIG HXS HX12 HX11 HX10 HFL HP16 HP26 HP310 HP4 HBW HX6
 obtain ⟨c0, c1, c2, cf⟩ := blk3 HBW12.out
 go_wp2_with fail
 refine (HT2.out.dec w12 (Ext.refl _)).mono ?_
 rintro r w13 ⟨rfl, hx1⟩
 go_upto_region 11 with fail
 obtain ⟨w14, hwn⟩ : ∃ w14, w14 = w13.alloc (.cells #[.int .i64 h1, .int .i64 h2, .int .i64 h3, .int .i64 h4, .int .i64 h5, .bool h6] 29) := ⟨_, rfl⟩
 have hx2 : Ext w13 w14 := by rw [hwn]; exact (Ext.refl _).alloc _
 obtain ⟨p5, hbn⟩ : ∃ p5 : Nat, p5 = w13.heap.size := ⟨_, rfl⟩
 have HP5 := hI (show w14.heap[p5]? = some (.cells #[.int .i64 h1, .int .i64 h2, .int .i64 h3, .int .i64 h4, .int .i64 h5, .bool h6] 29 (0, 0)) by rw [hwn, hbn]; exact alloc_new w13 _)
 rw [<- hwn, <- hbn]
 clear hwn hbn
 have HX14 := hI (show Ext w12 w14 from hx1.trans hx2)
 clear hx1 hx2 c0 c1 c2 cf
 obtain ⟨c0, c1, c2, cf⟩ := blk3 (HX14.out.blk HBW12.out)
 go_wp2_with fail
 refine (HT2.out.ref w14 HX14.out).mono ?_
 rintro r w15 ⟨rfl, hx1⟩
 go_upto_region 12 with fail
 obtain ⟨w16, hwn⟩ : ∃ w16, w16 = w15.alloc (.cells #[.int .i64 h1, .int .i64 h2, .int .i64 h3, .int .i64 h4, .int .i64 h5, .bool h6] 29) := ⟨_, rfl⟩
 have hx2 : Ext w15 w16 := by rw [hwn]; exact (Ext.refl _).alloc _
 obtain ⟨p6, hbn⟩ : ∃ p6 : Nat, p6 = w15.heap.size := ⟨_, rfl⟩
 have HP6 := hI (show w16.heap[p6]? = some (.cells #[.int .i64 h1, .int .i64 h2, .int .i64 h3, .int .i64 h4, .int .i64 h5, .bool h6] 29 (0, 0)) by rw [hwn, hbn]; exact alloc_new w15 _)
 rw [<- hwn, <- hbn]
 clear hwn hbn
 have HX16 := hI (show Ext w12 w16 from HX14.out.trans (hx1.trans hx2))
 have HP516 := hI ((hx1.trans hx2).blk HP5.out)
 clear hx1 hx2 c0 c1 c2 cf HX14 HP5 HT2
 obtain ⟨r0, r1, r2, r3, r4, r5, rf⟩ := blk6d (HX16.out.blk HP112.out)
 obtain ⟨q0, q1, q2, q3, q4, q5, qf⟩ := blk6d (HX16.out.blk HP212.out)
 obtain ⟨u0, u1, u2, u3, u4, u5, uf⟩ := blk6d (HX16.out.blk HP312.out)
 obtain ⟨x0, x1, x2, x3, x4, x5, xf⟩ := blk6d (HX16.out.blk HP412.out)
 obtain ⟨y0, y1, y2, y3, y4, y5, yf⟩ := blk6d HP516.out
 obtain ⟨z0, z1, z2, z3, z4, z5, zf⟩ := blk6d HP6.out
 have HXZ := hI (HXW.out.trans HX16.out)
 clear HX16 HXW HP112 HP212 HP312 HP412 HP516 HP6 HBW12
 go_wp2_with fail
 refine (HAW.out w16 HXZ.out).mono ?_
 rintro r w17 ⟨rfl, hx17⟩
 have HXY := hI (HXZ.out.trans hx17)
 clear hx17
 go_wp2_with fail
 go_ret
 exact givesE_bool (by simp) HXY.out
open Go.ChangeShapes Go.WideShapes Go.ChangeAt Go.RowKit
theorem exFields_are : (Tryz.prog.underlying 45).bind (fun u => match u with | .struct fs => some (fs.toList.map (fun f => (f.type, f.offset))) | _ => none) = some [(3, 0), (9, 1), (42, 2), (3, 3), (3, 4), (43, 5)] := by kernel_rfl
theorem uEx : ∃ fs : Array Field, Tryz.prog.underlying 45 = some (.struct fs) /\ fs.toList.map (fun f => (f.type, f.offset)) = [(3, 0), (9, 1), (42, 2), (3, 3), (3, 4), (43, 5)] := by
 have h := exFields_are
 generalize Tryz.prog.underlying 45 = U at *
 match U, h with
 | some (.struct fs), h => exact ⟨fs, rfl, by simpa using h⟩
theorem cEx : Tryz.prog.cellsOf 45 = 6 := by kernel_rfl
theorem cSs : Tryz.prog.cellsOf 42 = 1 := by kernel_rfl
theorem cExs : Tryz.prog.cellsOf 43 = 1 := by kernel_rfl
theorem uSs : Tryz.prog.underlying 42 = some (.slice 9) := by kernel_rfl
theorem uExs : Tryz.prog.underlying 43 = some (.slice 45) := by kernel_rfl
theorem bStr : Tryz.prog.bytesOf 9 = 16 := by kernel_rfl
theorem list6 {α : Type} (l : List α) (h : l.length = 6) : ∃ a b c d e f, l = [a, b, c, d, e, f] := by
 rcases l with _ | ⟨a, _ | ⟨b, _ | ⟨c, _ | ⟨d, _ | ⟨e, _ | ⟨f, _ | ⟨g, r⟩⟩⟩⟩⟩⟩⟩ <;> simp at h
 exact ⟨a, b, c, d, e, f, rfl⟩
theorem spot_none {W : World} {a : Addr} {v : Value} (h : W.cell? a = some v) : a.spot = none := by
 cases hs : a.spot with
 | none => rfl
 | some x =>
  simp only [World.cell?, hs] at h
  split at h <;> simp at h
theorem add_plain (b off i : Nat) : (⟨b, off, none⟩ : Addr).add i = ⟨b, off + i, none⟩ := by
 unfold Addr.add
 split <;> simp_all
theorem fits_mk' {e : Ex} (h1 : e.name.size <= 1000000000000000) (h2 : ∀ x ∈ e.words, x.size <= 1000000000000000) (h3 : ∀ x ∈ e.args, x.fits) : e.fits := by
 cases e with
 | mk op name words lo hi args =>
  unfold Ex.fits
  refine ⟨h1, h2, ?_⟩
  simp only [Ex.args] at h3
  clear h1 h2
  induction args with
  | nil => unfold fitsAll; trivial
  | cons a r ih => unfold fitsAll; exact ⟨h3 a (by simp), ih (fun x hx => h3 x (List.mem_cons_of_mem _ hx))⟩
theorem few_mk' {e : Ex} (h2 : e.words.length <= 1000000000000000) (h3 : ∀ x ∈ e.args, x.few) : e.few := by
 cases e with
 | mk op name words lo hi args =>
  unfold Ex.few
  refine ⟨h2, ?_⟩
  simp only [Ex.args] at h3
  clear h2
  induction args with
  | nil => unfold fewAll; trivial
  | cons a r ih => unfold fewAll; exact ⟨h3 a (by simp), ih (fun x hx => h3 x (List.mem_cons_of_mem _ hx))⟩
theorem list_of {α : Type} {Q : Nat -> α -> Prop} : (n : Nat) -> (∀ i, i < n -> ∃ x, Q i x) -> ∃ l : List α, l.length = n /\ ∀ i (h : i < l.length), Q i l[i]
 | 0, _ => ⟨[], rfl, fun i h => by simp at h⟩
 | n + 1, h => by
  obtain ⟨l, h1, h2⟩ := list_of n (fun i hi => h i (by omega))
  obtain ⟨x, hx⟩ := h n (by omega)
  refine ⟨l ++ [x], by simp [h1], fun i hi => ?_⟩
  by_cases e : i < l.length
  ·rw [List.getElem_append_left e]; exact h2 i e
  have : i = n := by simp at hi; omega
  subst this
  rw [List.getElem_append_right (by omega)]
  simpa using hx
theorem strs_arg {H : Type} {enc : TypeId × Value -> H} {W : World} {n : Nat} {c : Value} {y : DataW H × List MemPlace} (h : DataW.trod enc Tryz.prog W 0 (fun _ => true) true n 42 [c] = some y) (hw : (y.1.weights Tryz.prog 42).all (· <= reachBytes) = true) :
  ∃ (l : ZB) (a : OA) (m k : Nat), c = .slice a m k /\ IsStrs W l a m k /\ (∀ x ∈ l, x.size <= 1000000000000000) /\ l.length <= 1000000000000000 := by
 have hr := reachBytes_lt
 rcases open_strings uSs uS cS h with ⟨hc, _⟩ | ⟨a, len, cap, ss, hc, _, hl, hm, hz, hx, hcell, hsz⟩
 ·simp at hc
  exact ⟨[], none, 0, 0, hc, ⟨rfl, by omega, Or.inl ⟨rfl, rfl⟩, fun i hi => by simp at hi⟩, by simp, by simp⟩
 simp at hc
 subst hc
 simp only [if_true] at hz
 subst hx
 have hw' := hw
 simp only [DataW.weights, uSs, List.all_cons, Bool.and_eq_true, decide_eq_true_eq, List.all_append, bStr] at hw'
 obtain ⟨hw1, hw2, _⟩ := hw'
 have hlen : (strs (H := H) (ss.take len)).length = len := by simp [strs]; omega
 have hdrop : (strs (H := H) (ss.drop len)).length = cap - len := by simp [strs]; omega
 refine ⟨ss.take len, some a, len, cap, rfl, ⟨by simp; omega, hl, ?_, fun i hi => ?_⟩, fun x hx => ?_, by simp; omega⟩
 ·by_cases h0 : cap = 0
  ·exact Or.inl ⟨h0, h0⟩
  have h1 := hcell 0 (by omega)
  rw [show a.add 0 = a by simp [Addr.add]] at h1
  have := spot_none h1
  obtain ⟨b, off, sp⟩ := a
  simp only at this
  subst this
  exact Or.inr ⟨b, off, rfl⟩
 ·have hi' : i < len := by simp at hi; omega
  have h1 := hcell 0 (by omega)
  rw [show a.add 0 = a by simp [Addr.add]] at h1
  have hsp := spot_none h1
  obtain ⟨b, off, sp⟩ := a
  simp only at hsp
  subst hsp
  have h2 := hcell i (by omega)
  rw [add_plain] at h2
  refine ⟨b, off, rfl, ?_⟩
  rw [h2]
  simp [List.getD, show i < ss.length by omega]
 have hmem : ∀ (l : ZB), (DataW.weightsAll Tryz.prog 9 (strs (H := H) l)).all (· <= reachBytes) = true -> ∀ x ∈ l, x.size <= reachBytes := by
  intro l
  induction l with
  | nil => intro _ x hx; simp at hx
  | cons y r ih =>
   intro hall x hx
   simp only [strs, List.map_cons, DataW.weightsAll, List.all_append, Bool.and_eq_true] at hall
   rcases List.mem_cons.1 hx with rfl | hx
   ·have := hall.1
    simp [DataW.weights] at this
    exact this
   exact ih hall.2 x hx
 have := hmem _ hw2 x hx
 omega
theorem weights_each {H : Type} {tE : TypeId} : ∀ (l : List (DataW H × List MemPlace)), (DataW.weightsAll Tryz.prog tE (l.map (·.1))).all (· <= reachBytes) = true -> ∀ y ∈ l, (y.1.weights Tryz.prog tE).all (· <= reachBytes) = true := by
 intro l
 induction l with
 | nil => intro _ y hy; simp at hy
 | cons z r ih2 =>
  intro h1 y hy
  simp only [List.map_cons, DataW.weightsAll, List.all_append, Bool.and_eq_true] at h1
  rcases List.mem_cons.1 hy with rfl | hy
  ·exact h1.1
  exact ih2 h1.2 y hy
theorem rows_arg {α : Type} {H : Type} {enc : TypeId × Value -> H} {W : World} {tS tE : TypeId} {m : Nat} (f : α -> List Value) (hf : ∀ y, (f y).length = m) (hm0 : 0 < m) (uSl : Tryz.prog.underlying tS = some (.slice tE)) (cE : Tryz.prog.cellsOf tE = m) {B : Nat} (bE : Tryz.prog.bytesOf tE = B) (hB : 0 < B) {Q : α -> Prop} {fuel : Nat}
  (el : ∀ k, k < fuel -> ∀ (cs : List Value) (x : DataW H × List MemPlace), DataW.trod enc Tryz.prog W 0 (fun _ => true) true k tE cs = some x -> (x.1.weights Tryz.prog tE).all (· <= reachBytes) = true -> ∃ y, cs = f y /\ Q y)
  {c : Value} {y : DataW H × List MemPlace} (h : DataW.trod enc Tryz.prog W 0 (fun _ => true) true fuel tS [c] = some y) (hw : (y.1.weights Tryz.prog tS).all (· <= reachBytes) = true) :
  ∃ ys a n k, c = .slice a n k /\ IsRows W m f ys a n k /\ (∀ z ∈ ys, Q z) /\ n <= 1000000000000000 := by
 have hr := reachBytes_lt
 rcases DataW.trod_slice uSl h with ⟨hc5, _⟩ | ⟨a, len, cap, elems, rest, k, hk, hc5, hx5, _, hl, hm, hel, hev, hsp, _⟩
 ·simp only [List.cons.injEq, and_true] at hc5
  subst hc5
  exact ⟨[], none, 0, 0, rfl, ⟨rfl, Nat.le_refl 0, Or.inl ⟨rfl, rfl⟩, fun i hi => by simp at hi⟩, by simp, by omega⟩
 simp only [List.cons.injEq, and_true] at hc5
 subst hc5
 rw [hx5] at hw
 simp only [DataW.weights, uSl, List.all_cons, List.all_append, Bool.and_eq_true, decide_eq_true_eq, bE] at hw
 obtain ⟨w5, w6, _⟩ := hw
 have each : ∀ i, i < len -> ∃ t : α, (∀ j, j < m -> W.cell? ((a.add (i * m)).add j) = (f t)[j]?) /\ Q t := by
  intro i hi
  have h1 := hev i hi
  rw [List.getElem?_eq_getElem (by omega), cE, Option.bind_eq_some_iff] at h1
  obtain ⟨cs', h2, h3⟩ := h1
  obtain ⟨t, h4, h5⟩ := el k (by omega) cs' _ h3 (weights_each elems w6 _ (List.getElem_mem _))
  subst h4
  exact ⟨t, fun j hj => (World.cells?_some h2).2.2 j hj, h5⟩
 have hok : OkAddr (some a) cap := by
  by_cases h0 : cap = 0
  ·exact Or.inl ⟨h0, h0⟩
  have hcell : ∃ v, W.cell? a = some v := by
   by_cases h1 : 0 < len
   ·obtain ⟨t, h2, _⟩ := each 0 h1
    have := h2 0 hm0
    rw [show (a.add (0 * m)).add 0 = a by simp [Addr.add]] at this
    exact ⟨_, by rw [this, List.getElem?_eq_getElem (by rw [hf]; exact hm0)]⟩
   obtain ⟨h3, h4⟩ := hsp rfl
   have h5 := h4 0 (by omega)
   rw [List.getElem?_eq_getElem (by omega), cE, Option.bind_eq_some_iff] at h5
   obtain ⟨cs', h6, _⟩ := h5
   obtain ⟨_, h8, h7⟩ := World.cells?_some h6
   have h9 := h7 0 hm0
   rw [show (a.add ((len + 0) * m)).add 0 = a by simp [Addr.add, show len = 0 by omega]] at h9
   exact ⟨cs'[0]'(by omega), by rw [h9, List.getElem?_eq_getElem (by omega)]⟩
  obtain ⟨v, hv⟩ := hcell
  have := spot_none hv
  obtain ⟨b, off, sp⟩ := a
  simp only at this
  subst this
  exact Or.inr ⟨b, off, rfl⟩
 obtain ⟨l, hl1, hl2⟩ := list_of len each
 refine ⟨l, some a, len, cap, rfl, ⟨hl1.symm, hl, hok, fun i hi => ?_⟩, fun t ht => ?_, ?_⟩
 ·have h2 := (hl2 0 (by omega)).1 0 hm0
  rw [show (a.add (0 * m)).add 0 = a by simp [Addr.add]] at h2
  have hsp2 := spot_none (v := (f l[0])[0]'(by rw [hf]; exact hm0)) (by rw [h2]; exact List.getElem?_eq_getElem _)
  obtain ⟨b, off, sp⟩ := a
  simp only at hsp2
  subst hsp2
  refine ⟨b, off, rfl, fun j hj => ?_⟩
  have := (hl2 i hi).1 j (by rw [hf] at hj; exact hj)
  rw [add_plain, add_plain, List.getElem?_eq_getElem hj] at this
  exact this
 ·obtain ⟨i, hi, rfl⟩ := List.getElem_of_mem ht
  exact (hl2 i hi).2
 have e1 : (elems.map (·.1)).length = len := by simp; omega
 have e2 : (elems.map (·.1)).length <= ((elems.map (·.1)).length + (rest.map (·.1)).length) * B := Nat.le_trans (Nat.le_add_right _ _) (Nat.le_mul_of_pos_right _ hB)
 omega
theorem attrFields_are : (Tryz.prog.underlying 101).bind (fun u => match u with | .struct fs => some (fs.toList.map (fun f => (f.type, f.offset))) | _ => none) = some [(9, 0), (3, 1), (42, 2), (3, 3), (3, 4)] := by kernel_rfl
theorem uAttr : ∃ fs : Array Field, Tryz.prog.underlying 101 = some (.struct fs) /\ fs.toList.map (fun f => (f.type, f.offset)) = [(9, 0), (3, 1), (42, 2), (3, 3), (3, 4)] := by
 have h := attrFields_are
 generalize Tryz.prog.underlying 101 = U at *
 match U, h with
 | some (.struct fs), h => exact ⟨fs, rfl, by simpa using h⟩
theorem schFields_are : (Tryz.prog.underlying 24).bind (fun u => match u with | .struct fs => some (fs.toList.map (fun f => (f.type, f.offset))) | _ => none) = some [(22, 0)] := by kernel_rfl
theorem uSch : ∃ fs : Array Field, Tryz.prog.underlying 24 = some (.struct fs) /\ fs.toList.map (fun f => (f.type, f.offset)) = [(22, 0)] := by
 have h := schFields_are
 generalize Tryz.prog.underlying 24 = U at *
 match U, h with
 | some (.struct fs), h => exact ⟨fs, rfl, by simpa using h⟩
theorem cAttr : Tryz.prog.cellsOf 101 = 5 := by kernel_rfl
theorem cSch : Tryz.prog.cellsOf 24 = 1 := by kernel_rfl
theorem cAttrs : Tryz.prog.cellsOf 22 = 1 := by kernel_rfl
theorem uAttrs : Tryz.prog.underlying 22 = some (.slice 101) := by kernel_rfl
theorem bAttr : Tryz.prog.bytesOf 101 = 64 := by kernel_rfl
theorem attr_arg {H : Type} {enc : TypeId × Value -> H} {W : World} (fuel : Nat) (cs : List Value) (x : DataW H × List MemPlace) (h : DataW.trod enc Tryz.prog W 0 (fun _ => true) true fuel 101 cs = some x) (hw : (x.1.weights Tryz.prog 101).all (· <= reachBytes) = true) :
  ∃ v : AttrV, cs = v.cells /\ (IsStrs W v.x.words v.a v.n v.c /\ v.x.fits) := by
 obtain ⟨fs, uE, are⟩ := uAttr
 obtain ⟨xs, n, rfl, rfl, hlen, hxl, hf⟩ := DataW.trod_struct uE h
 have e6 : fs.size = 5 := by have := congrArg List.length are; simpa using this
 rw [e6] at hxl
 rw [cAttr] at hlen
 obtain ⟨c0, c1, c2, c3, c4, rfl⟩ := list5 cs hlen
 obtain ⟨x0, x1, x2, x3, x4, rfl⟩ := list5 xs hxl
 obtain ⟨f0, g0, t0, o0⟩ := op_field 0 _ _ (by rw [are]; rfl)
 obtain ⟨f1, g1, t1, o1⟩ := op_field 1 _ _ (by rw [are]; rfl)
 obtain ⟨f2, g2, t2, o2⟩ := op_field 2 _ _ (by rw [are]; rfl)
 obtain ⟨f3, g3, t3, o3⟩ := op_field 3 _ _ (by rw [are]; rfl)
 obtain ⟨f4, g4, t4, o4⟩ := op_field 4 _ _ (by rw [are]; rfl)
 have r0 := hf 0 f0 g0
 have r1 := hf 1 f1 g1
 have r2 := hf 2 f2 g2
 have r3 := hf 3 f3 g3
 have r4 := hf 4 f4 g4
 rw [t0, o0, cS] at r0
 rw [t1, o1, cI] at r1
 rw [t2, o2, cSs] at r2
 rw [t3, o3, cI] at r3
 rw [t4, o4, cI] at r4
 simp only [List.drop_zero, List.drop_succ_cons, List.take_succ_cons, List.take_zero, List.getElem?_cons_zero, List.getElem?_cons_succ] at r0 r1 r2 r3 r4
 have hty : fs.toList.map (·.type) = [9, 3, 42, 3, 3] := by
  have := congrArg (List.map Prod.fst) are
  rw [List.map_map] at this
  exact this
 simp only [DataW.weights, uE, hty, List.map_cons, List.map_nil, DataW.weightsEach, List.all_append, Bool.and_eq_true] at hw
 obtain ⟨w0, _, w2, _⟩ := hw
 obtain ⟨s, a0, b0, _⟩ := DataW.trod_string uS r0
 obtain ⟨kind, a1, _, _⟩ := DataW.trod_int uI r1
 obtain ⟨lo, a3, _, _⟩ := DataW.trod_int uI r3
 obtain ⟨hi, a4, _, _⟩ := DataW.trod_int uI r4
 simp only [List.cons.injEq, and_true] at a0 a1 a3 a4
 subst a0 a1 a3 a4
 have hr := reachBytes_lt
 have hss : s.size <= 1000000000000000 := by
  rw [b0] at w0
  simp [DataW.weights] at w0
  omega
 obtain ⟨words, aw, nw, cw, rfl, hws, hwz, hwl⟩ := strs_arg r2 w2
 exact ⟨⟨⟨s, kind, words, lo, hi⟩, aw, nw, cw⟩, rfl, hws, hss, hwl, hwz⟩
theorem isSchema_rows {W : World} {avs : List AttrV} {a : OA} {n c : Nat} (h : IsRows W 5 AttrV.cells avs a n c) (hs : ∀ v ∈ avs, IsStrs W v.x.words v.a v.n v.c) : IsSchema W (avs.map (·.x)) (.agg #[.slice a n c]) := by
 refine ⟨a, n, c, rfl, by simp [h.1], h.2.1, h.2.2.1, fun i hi => ?_⟩
 have hi' : i < avs.length := by simpa using hi
 obtain ⟨b, off, e, hc⟩ := h.2.2.2 i hi'
 refine ⟨b, off, e, ?_⟩
 have hl : (avs[i].cells).length = 5 := rfl
 simp only [List.getElem_map]
 exact ⟨avs[i].a, avs[i].n, avs[i].c, hc 0 (by omega), hc 1 (by omega), hc 2 (by omega), hc 3 (by omega), hc 4 (by omega), hs _ (List.getElem_mem hi')⟩
theorem schema_arg {H : Type} {enc : TypeId × Value -> H} {W : World} {v : Value} {d : DataW H} {p : List MemPlace} {ts : List TypeId} {ds : List (DataW H)} {j : Nat} (h : DataW.Trod enc Tryz.prog W 0 (fun _ => true) true 24 v d p) {base : Nat} (hval : Value.okWide Tryz.prog W .any base 24 v)
  (hs : (DataW.weightsEach Tryz.prog ts ds).all (· <= reachBytes) = true) (ht : ts[j]? = some 24) (hd : ds[j]? = some d) : ∃ l : List Attr, IsSchema W l v /\ (∀ x ∈ l, x.fits) /\ l.length <= 1000000000000000 := by
 have hw : (d.weights Tryz.prog 24).all (· <= reachBytes) = true := by
  rw [List.all_eq_true]
  intro n hn
  exact List.all_eq_true.1 hs n (DataW.weights_mem_each ht hd n hn)
 obtain ⟨fs, uE, are⟩ := uSch
 obtain ⟨cs0, rfl, _⟩ := okWide_struct uE hval
 obtain ⟨fuel, hf⟩ := h
 simp only [Value.cells] at hf
 generalize hcs : cs0.toList = cs at hf
 obtain rfl : cs0 = cs.toArray := by rw [<- hcs]
 obtain ⟨xs, n, rfl, hx, hlen, hxl, hff⟩ := DataW.trod_struct uE hf
 have e1 : fs.size = 1 := by have := congrArg List.length are; simpa using this
 rw [e1] at hxl
 rw [cSch] at hlen
 obtain ⟨c0, rfl⟩ : ∃ c, cs = [c] := by
  match cs, hlen with
  | [c], _ => exact ⟨c, rfl⟩
 obtain ⟨x0, rfl⟩ : ∃ c, xs = [c] := by
  match xs, hxl with
  | [c], _ => exact ⟨c, rfl⟩
 obtain ⟨f0, g0, t0, o0⟩ := op_field 0 _ _ (by rw [are]; rfl)
 have r0 := hff 0 f0 g0
 rw [t0, o0, cAttrs] at r0
 simp only [List.drop_zero, List.take_succ_cons, List.take_zero, List.getElem?_cons_zero] at r0
 have hty : fs.toList.map (·.type) = [22] := by
  have := congrArg (List.map Prod.fst) are
  rw [List.map_map] at this
  exact this
 have hd' : d = .agg [x0.1] := (Prod.mk.inj hx).1
 rw [hd'] at hw
 simp only [DataW.weights, uE, hty, DataW.weightsEach, List.all_append, Bool.and_eq_true] at hw
 obtain ⟨avs, a, n', c, rfl, h1, h2, h3⟩ := rows_arg AttrV.cells (fun _ => rfl) (by omega) uAttrs cAttr bAttr (by omega) (fun k _ cs x g1 g2 => attr_arg k cs x g1 g2) r0 hw.1
 refine ⟨avs.map (·.x), isSchema_rows h1 fun v hv => (h2 v hv).1, fun x hx => ?_, by simp; rw [<- h1.1]; exact h3⟩
 obtain ⟨v, hv, rfl⟩ := List.mem_map.1 hx
 exact (h2 v hv).2
theorem bEx : Tryz.prog.bytesOf 45 = 88 := by kernel_rfl
theorem ex_arg2 {H : Type} {enc : TypeId × Value -> H} {W : World} : ∀ (fuel : Nat) (cs : List Value) (x : DataW H × List MemPlace), DataW.trod enc Tryz.prog W 0 (fun _ => true) true fuel 45 cs = some x -> (x.1.weights Tryz.prog 45).all (· <= reachBytes) = true ->
  ∃ (e : Ex) (v : ExV), cs = v.cells /\ IsEx W e v.val /\ e.fits /\ e.few /\ e.slim := by
 intro fuel
 induction fuel using Nat.strongRecOn with
 | _ fuel ih =>
  intro cs x h hw
  obtain ⟨fs, uE, are⟩ := uEx
  obtain ⟨xs, n, rfl, rfl, hlen, hxl, hf⟩ := DataW.trod_struct uE h
  have e6 : fs.size = 6 := by have := congrArg List.length are; simpa using this
  rw [e6] at hxl
  rw [cEx] at hlen
  obtain ⟨c0, c1, c2, c3, c4, c5, rfl⟩ := list6 cs hlen
  obtain ⟨x0, x1, x2, x3, x4, x5, rfl⟩ := list6 xs hxl
  obtain ⟨f0, g0, t0, o0⟩ := op_field 0 _ _ (by rw [are]; rfl)
  obtain ⟨f1, g1, t1, o1⟩ := op_field 1 _ _ (by rw [are]; rfl)
  obtain ⟨f2, g2, t2, o2⟩ := op_field 2 _ _ (by rw [are]; rfl)
  obtain ⟨f3, g3, t3, o3⟩ := op_field 3 _ _ (by rw [are]; rfl)
  obtain ⟨f4, g4, t4, o4⟩ := op_field 4 _ _ (by rw [are]; rfl)
  obtain ⟨f5, g5, t5, o5⟩ := op_field 5 _ _ (by rw [are]; rfl)
  have r0 := hf 0 f0 g0
  have r1 := hf 1 f1 g1
  have r2 := hf 2 f2 g2
  have r3 := hf 3 f3 g3
  have r4 := hf 4 f4 g4
  have r5 := hf 5 f5 g5
  rw [t0, o0, cI] at r0
  rw [t1, o1, cS] at r1
  rw [t2, o2, cSs] at r2
  rw [t3, o3, cI] at r3
  rw [t4, o4, cI] at r4
  rw [t5, o5, cExs] at r5
  simp only [List.drop_zero, List.drop_succ_cons, List.take_succ_cons, List.take_zero, List.getElem?_cons_zero, List.getElem?_cons_succ] at r0 r1 r2 r3 r4 r5
  have hty : fs.toList.map (·.type) = [3, 9, 42, 3, 3, 43] := by
   have := congrArg (List.map Prod.fst) are
   rw [List.map_map] at this
   exact this
  simp only [DataW.weights, uE, hty, List.map_cons, List.map_nil, DataW.weightsEach, List.all_append, Bool.and_eq_true] at hw
  obtain ⟨_, w1, w2, _, _, w5, _⟩ := hw
  obtain ⟨op, a0, _, _⟩ := DataW.trod_int uI r0
  obtain ⟨s, a1, b1, _⟩ := DataW.trod_string uS r1
  obtain ⟨lo, a3, _, _⟩ := DataW.trod_int uI r3
  obtain ⟨hi, a4, _, _⟩ := DataW.trod_int uI r4
  simp only [List.cons.injEq, and_true] at a0 a1 a3 a4
  subst a0 a1 a3 a4
  have hr := reachBytes_lt
  have hss : s.size <= 1000000000000000 := by
   rw [b1] at w1
   simp [DataW.weights] at w1
   omega
  obtain ⟨words, aw, nw, cw, rfl, hws, hwz, hwl⟩ := strs_arg r2 w2
  obtain ⟨evs, a, n', c, rfl, q1, q2, q3⟩ := rows_arg (Q := fun v : ExV => ∃ e, IsEx W e v.val /\ e.fits /\ e.few /\ e.slim) ExV.cells exV_len (by omega) uExs cEx bEx (by omega) (fun k hk cs x g1 g2 => by
   obtain ⟨e, v, g3, g4⟩ := ih k (by omega) cs x g1 g2
   exact ⟨v, g3, e, g4⟩) r5 w5
  obtain ⟨l, hl1, hl2⟩ := list_of evs.length (Q := fun i e => ∀ h : i < evs.length, IsEx W e (evs[i]'h).val /\ e.fits /\ e.few /\ e.slim) (fun i hi => by
   obtain ⟨e, he⟩ := q2 _ (List.getElem_mem hi)
   exact ⟨e, fun _ => he⟩)
  have hq : ∀ y ∈ l, y.fits /\ y.few /\ y.slim := fun y hy => by
   obtain ⟨i, hi, rfl⟩ := List.getElem_of_mem hy
   exact (hl2 i hi (by omega)).2
  refine ⟨.mk op s words lo hi l, ⟨op, s, aw, nw, cw, lo, hi, a, n', c⟩, rfl, IsEx.mk hws (by rw [hl1]; exact q1.1) q1.2.1 q1.2.2.1 ?_, fits_mk' hss hwz fun y hy => (hq y hy).1, few_mk' hwl fun y hy => (hq y hy).2.1, slim_mk (by rw [hl1, <- q1.1]; exact q3) fun y hy => (hq y hy).2.2⟩
  cases hll : l with
  | nil => unfold ExsD; trivial
  | cons z r =>
   rw [<- hll]
   have hpos : 0 < evs.length := by rw [<- hl1, hll]; simp
   obtain ⟨b, off, rfl, _⟩ := q1.2.2.2 0 hpos
   refine ExsD.of l off evs hl1 fun i h3 h4 => ⟨fun j hj => ?_, (hl2 i h3 h4).1⟩
   obtain ⟨b', off', e', hc⟩ := q1.2.2.2 i h4
   simp only [Option.some.injEq, Addr.mk.injEq, and_true] at e'
   obtain ⟨rfl, rfl⟩ := e'
   have hj' : j < (evs[i].cells).length := by rw [exV_len]; exact hj
   rw [hc j hj', List.getElem?_eq_getElem hj']
theorem wbFields_are : (Tryz.prog.underlying 53).bind (fun u => match u with | .struct fs => some (fs.toList.map (fun f => (f.type, f.offset))) | _ => none) = some [(9, 0), (45, 1), (46, 7)] := by kernel_rfl
theorem uWb : ∃ fs : Array Field, Tryz.prog.underlying 53 = some (.struct fs) /\ fs.toList.map (fun f => (f.type, f.offset)) = [(9, 0), (45, 1), (46, 7)] := by
 have h := wbFields_are
 generalize Tryz.prog.underlying 53 = U at *
 match U, h with
 | some (.struct fs), h => exact ⟨fs, rfl, by simpa using h⟩
theorem clFields_are : (Tryz.prog.underlying 48).bind (fun u => match u with | .struct fs => some (fs.toList.map (fun f => (f.type, f.offset))) | _ => none) = some [(3, 0), (9, 1), (45, 2), (46, 8), (3, 9)] := by kernel_rfl
theorem uCl : ∃ fs : Array Field, Tryz.prog.underlying 48 = some (.struct fs) /\ fs.toList.map (fun f => (f.type, f.offset)) = [(3, 0), (9, 1), (45, 2), (46, 8), (3, 9)] := by
 have h := clFields_are
 generalize Tryz.prog.underlying 48 = U at *
 match U, h with
 | some (.struct fs), h => exact ⟨fs, rfl, by simpa using h⟩
theorem cWb : Tryz.prog.cellsOf 53 = 8 := by kernel_rfl
theorem cWbs : Tryz.prog.cellsOf 46 = 1 := by kernel_rfl
theorem uWbs : Tryz.prog.underlying 46 = some (.slice 53) := by kernel_rfl
theorem bWb : Tryz.prog.bytesOf 53 = 128 := by kernel_rfl
theorem cCl : Tryz.prog.cellsOf 48 = 10 := by kernel_rfl
theorem uCls : Tryz.prog.underlying 25 = some (.slice 48) := by kernel_rfl
theorem bCl : Tryz.prog.bytesOf 48 = 144 := by kernel_rfl
theorem list8 {α : Type} (l : List α) (h : l.length = 8) : ∃ a b c d e f g i, l = [a, b, c, d, e, f, g, i] := by
 rcases l with _ | ⟨a, _ | ⟨b, _ | ⟨c, _ | ⟨d, _ | ⟨e, _ | ⟨f, _ | ⟨g, _ | ⟨i, _ | ⟨j, r⟩⟩⟩⟩⟩⟩⟩⟩⟩ <;> simp at h
 exact ⟨a, b, c, d, e, f, g, i, rfl⟩
theorem list3 {α : Type} (l : List α) (h : l.length = 3) : ∃ a b c, l = [a, b, c] := by
 rcases l with _ | ⟨a, _ | ⟨b, _ | ⟨c, _ | ⟨d, r⟩⟩⟩⟩ <;> simp at h
 exact ⟨a, b, c, rfl⟩
theorem list10 {α : Type} (l : List α) (h : l.length = 10) : ∃ a b c d e f g i j k, l = [a, b, c, d, e, f, g, i, j, k] := by
 rcases l with _ | ⟨a, _ | ⟨b, _ | ⟨c, _ | ⟨d, _ | ⟨e, _ | ⟨f, _ | ⟨g, _ | ⟨i, _ | ⟨j, _ | ⟨k, _ | ⟨m, r⟩⟩⟩⟩⟩⟩⟩⟩⟩⟩⟩ <;> simp at h
 exact ⟨a, b, c, d, e, f, g, i, j, k, rfl⟩
theorem wbs_rows {W : World} {vs : List WbV} {a : OA} {n c : Nat} (h : IsRows W 8 WbV.cells vs a n c) {l : List Wb} (hl : l.length = vs.length) (hw : ∀ i (h1 : i < l.length) (h2 : i < vs.length), IsWb W l[i] vs[i]) : WbsD W l a := by
 cases hll : l with
 | nil => unfold WbsD; trivial
 | cons z r =>
  rw [<- hll]
  have hpos : 0 < vs.length := by rw [<- hl, hll]; simp
  obtain ⟨b, off, rfl, _⟩ := h.2.2.2 0 hpos
  refine WbsD.of l off vs hl fun i h3 h4 => ?_
  obtain ⟨b', off', e', hc⟩ := h.2.2.2 i h4
  simp only [Option.some.injEq, Addr.mk.injEq, and_true] at e'
  obtain ⟨rfl, rfl⟩ := e'
  obtain ⟨g1, g2, g3, g4, g5, g6⟩ := hw i h3 h4
  exact ⟨g1, fun j hj => hc j hj, g2, g3, g4, g5, g6⟩
theorem wbs_read {W : World} {vs : List WbV} {a : OA} {n c : Nat} (h : IsRows W 8 WbV.cells vs a n c) (hq : ∀ v ∈ vs, ∃ x : Wb, IsWb W x v /\ x.fit) : ∃ l : List Wb, n = l.length /\ n <= c /\ OkAddr a c /\ WbsD W l a /\ wbFits l := by
 obtain ⟨l, hl1, hl2⟩ := list_of vs.length (Q := fun i e => ∀ h : i < vs.length, IsWb W e (vs[i]'h) /\ e.fit) (fun i hi => by
  obtain ⟨e, he⟩ := hq _ (List.getElem_mem hi)
  exact ⟨e, fun _ => he⟩)
 refine ⟨l, by rw [hl1]; exact h.1, h.2.1, h.2.2.1, wbs_rows h hl1 fun i h1 h2 => (hl2 i h1 h2).1, wbFits_of l fun x hx => ?_⟩
 obtain ⟨i, hi, rfl⟩ := List.getElem_of_mem hx
 exact (hl2 i hi (by omega)).2
theorem wb_arg {H : Type} {enc : TypeId × Value -> H} {W : World} : ∀ (fuel : Nat) (cs : List Value) (x : DataW H × List MemPlace), DataW.trod enc Tryz.prog W 0 (fun _ => true) true fuel 53 cs = some x -> (x.1.weights Tryz.prog 53).all (· <= reachBytes) = true ->
  ∃ v : WbV, cs = v.cells /\ ∃ y : Wb, IsWb W y v /\ y.fit := by
 intro fuel
 induction fuel using Nat.strongRecOn with
 | _ fuel ih =>
  intro cs x h hw
  obtain ⟨fs, uE, are⟩ := uWb
  obtain ⟨xs, n, rfl, rfl, hlen, hxl, hf⟩ := DataW.trod_struct uE h
  have e6 : fs.size = 3 := by have := congrArg List.length are; simpa using this
  rw [e6] at hxl
  rw [cWb] at hlen
  obtain ⟨c0, c1, c2, c3, c4, c5, c6, c7, rfl⟩ := list8 cs hlen
  obtain ⟨x0, x1, x2, rfl⟩ := list3 xs hxl
  obtain ⟨f0, g0, t0, o0⟩ := op_field 0 _ _ (by rw [are]; rfl)
  obtain ⟨f1, g1, t1, o1⟩ := op_field 1 _ _ (by rw [are]; rfl)
  obtain ⟨f2, g2, t2, o2⟩ := op_field 2 _ _ (by rw [are]; rfl)
  have r0 := hf 0 f0 g0
  have r1 := hf 1 f1 g1
  have r2 := hf 2 f2 g2
  rw [t0, o0, cS] at r0
  rw [t1, o1, cEx] at r1
  rw [t2, o2, cWbs] at r2
  simp only [List.drop_zero, List.drop_succ_cons, List.take_succ_cons, List.take_zero, List.getElem?_cons_zero, List.getElem?_cons_succ] at r0 r1 r2
  have hty : fs.toList.map (·.type) = [9, 45, 46] := by
   have := congrArg (List.map Prod.fst) are
   rw [List.map_map] at this
   exact this
  rw [DataW.weights, uE] at hw
  simp only [hty, List.map_cons, List.map_nil, DataW.weightsEach, List.all_append, Bool.and_eq_true] at hw
  obtain ⟨w0, w1, w2, _⟩ := hw
  obtain ⟨s, a0, b0, _⟩ := DataW.trod_string uS r0
  simp only [List.cons.injEq, and_true] at a0
  subst a0
  have hr := reachBytes_lt
  have hss : s.size <= 1000000000000000 := by
   rw [b0] at w0
   simp [DataW.weights] at w0
   omega
  obtain ⟨e, ev, he, hx1, hx2, hx3, hx4⟩ := ex_arg2 _ _ _ r1 w1
  obtain ⟨vs, a, n', c, rfl, q1, q2, q3⟩ := rows_arg (Q := fun v : WbV => ∃ x, IsWb W x v /\ x.fit) WbV.cells WbV.len (by omega) uWbs cWb bWb (by omega) (fun k hk cs x g1 g2 => ih k (by omega) cs x g1 g2) r2 w2
  obtain ⟨l, hn, hnc, hoa, hd, hfit⟩ := wbs_read q1 q2
  simp only [ExV.cells, List.cons.injEq, and_true] at he
  obtain ⟨rfl, rfl, rfl, rfl, rfl, rfl⟩ := he
  exact ⟨⟨s, ev, a, n', c⟩, rfl, .mk s e l, ⟨rfl, hx1, hn, hnc, hoa, hd⟩, hss, hx2, hx3, hx4, by show l.length <= _; omega, hfit⟩
theorem cla_arg {H : Type} {enc : TypeId × Value -> H} {W : World} (fuel : Nat) (cs : List Value) (x : DataW H × List MemPlace) (h : DataW.trod enc Tryz.prog W 0 (fun _ => true) true fuel 48 cs = some x) (hw : (x.1.weights Tryz.prog 48).all (· <= reachBytes) = true) :
  ∃ v : ClV, cs = v.cells /\ ∃ y : Cla, IsCla W y v /\ y.fit := by
 obtain ⟨fs, uE, are⟩ := uCl
 obtain ⟨xs, n, rfl, rfl, hlen, hxl, hf⟩ := DataW.trod_struct uE h
 have e6 : fs.size = 5 := by have := congrArg List.length are; simpa using this
 rw [e6] at hxl
 rw [cCl] at hlen
 obtain ⟨c0, c1, c2, c3, c4, c5, c6, c7, c8, c9, rfl⟩ := list10 cs hlen
 obtain ⟨x0, x1, x2, x3, x4, rfl⟩ := list5 xs hxl
 obtain ⟨f0, g0, t0, o0⟩ := op_field 0 _ _ (by rw [are]; rfl)
 obtain ⟨f1, g1, t1, o1⟩ := op_field 1 _ _ (by rw [are]; rfl)
 obtain ⟨f2, g2, t2, o2⟩ := op_field 2 _ _ (by rw [are]; rfl)
 obtain ⟨f3, g3, t3, o3⟩ := op_field 3 _ _ (by rw [are]; rfl)
 obtain ⟨f4, g4, t4, o4⟩ := op_field 4 _ _ (by rw [are]; rfl)
 have r0 := hf 0 f0 g0
 have r1 := hf 1 f1 g1
 have r2 := hf 2 f2 g2
 have r3 := hf 3 f3 g3
 have r4 := hf 4 f4 g4
 rw [t0, o0, cI] at r0
 rw [t1, o1, cS] at r1
 rw [t2, o2, cEx] at r2
 rw [t3, o3, cWbs] at r3
 rw [t4, o4, cI] at r4
 simp only [List.drop_zero, List.drop_succ_cons, List.take_succ_cons, List.take_zero, List.getElem?_cons_zero, List.getElem?_cons_succ] at r0 r1 r2 r3 r4
 have hty : fs.toList.map (·.type) = [3, 9, 45, 46, 3] := by
  have := congrArg (List.map Prod.fst) are
  rw [List.map_map] at this
  exact this
 rw [DataW.weights, uE] at hw
 simp only [hty, List.map_cons, List.map_nil, DataW.weightsEach, List.all_append, Bool.and_eq_true] at hw
 obtain ⟨_, w1, w2, w3, _⟩ := hw
 obtain ⟨kind, a0, _, _⟩ := DataW.trod_int uI r0
 obtain ⟨s, a1, b1, _⟩ := DataW.trod_string uS r1
 obtain ⟨am, a4, _, _⟩ := DataW.trod_int uI r4
 simp only [List.cons.injEq, and_true] at a0 a1 a4
 subst a0 a1 a4
 have hr := reachBytes_lt
 have hss : s.size <= 1000000000000000 := by
  rw [b1] at w1
  simp [DataW.weights] at w1
  omega
 obtain ⟨e, ev, he, hx1, hx2, hx3, hx4⟩ := ex_arg2 _ _ _ r2 w2
 obtain ⟨vs, a, n', c, rfl, q1, q2, q3⟩ := rows_arg (Q := fun v : WbV => ∃ x, IsWb W x v /\ x.fit) WbV.cells WbV.len (by omega) uWbs cWb bWb (by omega) (fun k hk cs x g1 g2 => wb_arg k cs x g1 g2) r3 w3
 obtain ⟨l, hn, hnc, hoa, hd, hfit⟩ := wbs_read q1 q2
 simp only [ExV.cells, List.cons.injEq, and_true] at he
 obtain ⟨rfl, rfl, rfl, rfl, rfl, rfl⟩ := he
 exact ⟨⟨kind, s, ev, a, n', c, am⟩, rfl, ⟨kind, s, e, l, am⟩, ⟨rfl, rfl, hx1, hn, hnc, hoa, hd, rfl⟩, hss, hx2, hx3, hx4, by show l.length <= _; omega, hfit⟩
theorem clas_arg {H : Type} {enc : TypeId × Value -> H} {W : World} {base : Nat} {v : Value} {d : DataW H} {p : List MemPlace} {ts : List TypeId} {ds : List (DataW H)} {j : Nat} (hval : Value.okWide Tryz.prog W .any base 25 v) (h : DataW.Trod enc Tryz.prog W 0 (fun _ => true) true 25 v d p)
  (hs : (DataW.weightsEach Tryz.prog ts ds).all (· <= reachBytes) = true) (ht : ts[j]? = some 25) (hd : ds[j]? = some d) : ∃ l a n c, v = .slice a n c /\ IsClas W l a n c /\ (∀ x ∈ l, x.fit) /\ n <= 1000000000000000 := by
 have hw : (d.weights Tryz.prog 25).all (· <= reachBytes) = true := by
  rw [List.all_eq_true]
  intro n hn
  exact List.all_eq_true.1 hs n (DataW.weights_mem_each ht hd n hn)
 obtain ⟨a, n, c, rfl⟩ := okWide_slice uCls hval
 obtain ⟨fuel, hf⟩ := h
 obtain ⟨vs, a', n', c', e', q1, q2, q3⟩ := rows_arg (Q := fun v : ClV => ∃ x, IsCla W x v /\ x.fit) ClV.cells ClV.len (by omega) uCls cCl bCl (by omega) (fun k hk cs x g1 g2 => cla_arg k cs x g1 g2) hf hw
 simp only [Value.slice.injEq] at e'
 obtain ⟨rfl, rfl, rfl⟩ := e'
 obtain ⟨l, hl1, hl2⟩ := list_of vs.length (Q := fun i e => ∀ h : i < vs.length, IsCla W e (vs[i]'h) /\ e.fit) (fun i hi => by
  obtain ⟨e, he⟩ := q2 _ (List.getElem_mem hi)
  exact ⟨e, fun _ => he⟩)
 refine ⟨l, a, n, c, rfl, ⟨vs, q1, hl1, fun i h1 h2 => (hl2 i h1 h2).1⟩, fun x hx => ?_, q3⟩
 obtain ⟨i, hi, rfl⟩ := List.getElem_of_mem hx
 exact (hl2 i hi (by omega)).2
end Go.Proofs.YtefjomofjejklaaGreatDoor
