/-
  Texts of the claim, joined: RPfO, RPf, PfFit, Sch2, Awk11, World11, SamePr, SameW.
-/
import Derived.Test.YtpkljcgihobaiaaGreatDoorPv03
namespace Go.Proofs.YtpkljcgihobaiaaGreatDoor
set_option maxRecDepth 100000
set_option maxHeartbeats 32000000
open Go.RowKit
def rpf16O (_op : Int) (b6 : Nat) (sa : OA) (sn sc : Nat) (a : OA) (n c : Nat) (fa : OA) (fn fc : Nat) (k : Nat) (_name : BA) (_aw : OA) (_nw _cw : Nat) (_lo _hi : Int) (xb xo na ca : Nat) (x0 : Int) (x1 : BA) (aw1 : OA) (nw1 cw1 : Nat) (x5 x6 : Int) (aa1 : OA) (na1 ca1 : Nat)  : Nat -> Value -> World -> Prop
 | 0, u, _ => u = .agg #[.slice sa sn sc]
 | 1, u, _ => u = .slice a n c
 | 2, u, _ => u = .pointer (some ⟨b6 + 1, 5, none⟩)
 | 3, u, _ => u = .slice (some ⟨xb, xo, none⟩) na ca
 | 4, u, _ => u = .int .i64 ((k : Nat) : Int)
 | 5, u, _ => u = .pointer (some ⟨xb, xo + k * 6, none⟩)
 | 6, u, _ => u = .agg #[.int .i64 x0, .string x1, .slice aw1 nw1 cw1, .int .i64 x5, .int .i64 x6, .slice aa1 na1 ca1]
 | 7, u, _ => u = .slice fa fn fc
 | 8, u, _ => u = u /\ True
 | _, u, _ => u = u /\ True
def rpf20R (b11 _y k : Nat) (V : Bool) (pk : Int) (pa : OA) (pn pc : Nat) : Nat -> Value -> World -> Prop
 | 0, u, _ => u = .int .i64 ((k : Nat) : Int)
 | 1, u, _ => u = .agg #[.bool V, .int .i64 pk, .slice pa pn pc]
 | 2, u, W => ∃ (y2 : Nat), u = .slice (some ⟨y2, 0, none⟩) 1 1 /\ (W.heap[y2]? = some (.cells #[.bool V, .int .i64 pk, .slice pa pn pc] 40 (0, 0)) /\ b11 < y2)
 | 3, u, _ => u = .pointer (some ⟨b11, 1, none⟩)
 | 4, _, W => W.heap[b11]? = some (.cells #[.bool V, .int .i64 (k : Int), .slice none 0 0] 40 (0, 0))
 | _, u, _ => u = .pointer (some ⟨b11, 2, none⟩)
theorem rpf_oneC {s : List Attr} {l : List Cla} {f : ZI} {g : Nat} {name : BA} {words : ZB} {lo hi : Int} {args : List Ex} {V : Bool} {w : World} {M : ZN} {a : OA} {n c : Nat} {fa : OA} {fn fc : Nat} {sa : OA} {sn sc : Nat} {aw : OA} {nw cw : Nat} {aa : OA} {na ca : Nat} {op : Int} (hop : op = 7 /\ V = false \/ op = 8 /\ V = true) (hv : valF s l f (g + 1) (.mk op name words lo hi args) = V) (h : RpfIn s l f g op name args lo hi V w M a n c fa fn fc sa sn sc aw nw cw aa na ca) :
  Calls Tryz.prog 16 #[.agg #[.slice sa sn sc], .slice a n c, exV op name aw nw cw lo hi aa na ca, .slice fa fn fc] w (ProveQ (pfF s l f (g + 1) (.mk op name words lo hi args)) M w) := by
 have HQ1 := hI (show ∀ (k : Nat) (hk : k < args.length), (pfF s l f (g + 1) args[k]).value = V -> (∀ j (h : j < args.length), j < k -> (pfF s l f (g + 1) args[j]).value ≠ V) -> pfF s l f (g + 1) (.mk op name words lo hi args) = .mk V (k : Int) [pfF s l f (g + 1) args[k]] from fun k hk h1 h2 => rpf_one hop hk h1 h2)
 obtain ⟨j0, hj0, hjv⟩ := val_some (hop.imp And.left And.left) hv (by rcases hop with ⟨rfl, rfl⟩ | ⟨rfl, rfl⟩ <;> rfl)
 have HJV := hI hjv
 clear hv hjv
 have HTR := hI h.tr
 have HARG := hI h.arg
 have HM := hI h.m
 have HX := hI h.x
 have HNA := hI h.na
 have HFE := hI h.few
 clear h
 unfold exV at *
 obtain ⟨wa, hwa⟩ : ∃ wa, wa = ((w.alloc (.cells #[.slice sa sn sc] 31)).alloc (.cells #[.int .i64 op, .string name, .slice aw nw cw, .int .i64 lo, .int .i64 hi, .slice aa na ca] 26)).alloc (.cells #[.bool false, .int .i64 0, .slice none 0 0] 40) := ⟨_, rfl⟩
 have hxa : Ext w wa := by rw [hwa]; exact (((Ext.refl _).alloc _).alloc _).alloc _
 obtain ⟨b6, hb6⟩ : ∃ b6 : Nat, b6 = w.heap.size := ⟨_, rfl⟩
 have hb0 : wa.heap[b6]? = some (.cells #[.slice sa sn sc] 31 (0, 0)) := by rw [hwa, hb6]; exact blk_alloc (blk_alloc (alloc_new w _))
 have hb1 : wa.heap[b6 + 1]? = some (.cells #[.int .i64 op, .string name, .slice aw nw cw, .int .i64 lo, .int .i64 hi, .slice aa na ca] 26 (0, 0)) := by rw [hwa, hb6]; exact blk_alloc (alloc_atR (by simp))
 have hb2 : wa.heap[b6 + 1 + 1]? = some prZero := by rw [hwa, hb6]; exact alloc_atR (by simp)
 have HXA := hI hxa
 have HB0 := hI hb0
 have HB1 := hI hb1
 have HB2 := hI hb2
 have HB6 := hI hb6
 go_enter Tryz.func16, Tryz.ntmps16
 go_upto_region 1 with fail
 rw [<- hwa, <- hb6]
 clear hwa hb6
 obtain ⟨f0, f1, f2, f3, f4, f5, ff⟩ := blk6 hb1
 obtain ⟨e0, ef⟩ := blk1 hb0
 clear hxa hb0 hb1 hb2
 go_wp2_with fail
 refine (HTR.out wa HXA.out).mono ?_
 rintro r w1 ⟨rfl, hx1⟩
 go_upto_region 2 with fail
 obtain ⟨b11, hb11⟩ : ∃ b11 : Nat, b11 = w1.heap.size := ⟨_, rfl⟩
 obtain ⟨w2, hw2⟩ : ∃ w2, w2 = w1.alloc (.cells #[.bool V, .int .i64 (-1), .slice none 0 0] 40) := ⟨_, rfl⟩
 have hx2 : Ext wa w2 := by rw [hw2]; exact hx1.alloc _
 have HP2 := hI (show w2.heap[b11]? = some (.cells #[.bool V, .int .i64 (-1), .slice none 0 0] 40 (0, 0)) by rw [hw2, hb11]; exact alloc_new w1 _)
 have hlt11 : b6 + 1 + 1 < b11 := by have := blk_lt (hx1.blk HB2.out); omega
 rw [<- hw2, <- hb11]
 clear hw2 hb11 hx1 f0 f1 f2 f3 f4 f5 ff e0 ef
 have HLT := hI hlt11
 have HX2 := hI (HXA.out.trans hx2)
 have HS2 := hI (hx2.blk HB0.out)
 have HE2 := hI (hx2.blk HB1.out)
 have HZ2 := hI (hx2.blk HB2.out)
 clear hx2 hlt11 HB0 HB1 HB2 HXA HTR
 obtain ⟨f0, f1, f2, f3, f4, f5, ff⟩ := blk6 HE2.out
 obtain ⟨e0, ef⟩ := blk1 HS2.out
 have t6 : (op == 6) = false := by rcases hop with ⟨rfl, -⟩ | ⟨rfl, -⟩ <;> rfl
 have t3 : (op == 3) = false := by rcases hop with ⟨rfl, -⟩ | ⟨rfl, -⟩ <;> rfl
 obtain ⟨p0, p1, p2, pf'⟩ := blk3 HP2.out
 rcases hop with ⟨hop, hV⟩ | ⟨hop, hV⟩
 case' inl => have t7 : (op == 7) = true := by rw [hop]; rfl
 case' inr =>
  have t7 : (op == 7) = false := by rw [hop]; rfl
  have t8 : (op == 8) = true := by rw [hop]; rfl
 all_goals
 clear hop
 go_upto_region 13 with fail
 clear hV f0 f1 f2 f3 f4 f5 ff e0 ef p0 p1 p2 pf'
 go_wp2_with fail
 go_loopw [15, 16] (RpK (pfF s l f (g + 1)) args V na b6 b11 (.cells #[.slice sa sn sc] 31 (0, 0)) (.cells #[.int .i64 op, .string name, .slice aw nw cw, .int .i64 lo, .int .i64 hi, .slice aa na ca] 26 (0, 0)) w) (fun i _ _ => na - (intOf i).toNat)
 case atStart => exact ⟨0, rfl, by omega, fun j _ h => by omega, HS2.out, HE2.out, HZ2.out, HP2.out, HX2.out⟩
 case round =>
  obtain ⟨k, rfl, hk, hno, hb0, hb1, hb2, hbp, hxr⟩ := hrel
  have HNO := hI hno
  have HC0 := hI hb0
  have HC1 := hI hb1
  have HC2 := hI hb2
  have HBP := hI hbp
  have HXR := hI hxr
  have HSZ := hI (show b11 + 1 <= wr.heap.size from blk_lt hbp)
  have hnk : na <= 1000000 := by have := HNA.out; have := HFE.out; omega
  obtain ⟨e0, ef⟩ := blk1 hb0
  obtain ⟨f0, f1, f2, f3, f4, f5, ff⟩ := blk6 hb1
  clear hno hb0 hb1 hb2 hbp hxr HS2 HE2 HZ2 HP2 HX2
  by_cases hkn : k < na
  ·have hka : k < args.length := by have := HNA.out; omega
   have t1 : decide ((k : Int) < (na : Int)) = true := decide_eq_true (by omega)
   have HMA := hI (show ∀ y ∈ ((b6 + 1 + 1) :: b11 :: M), y < wr.heap.size from fun z hz => by
    have h1 := HLT.out; have h2 := HB6.out; have h4 := HSZ.out; have h5 := HM.out
    simp only [List.mem_cons] at hz
    rcases hz with rfl | rfl | hz
    ·omega
    ·omega
    have := h5 z hz; have := HXR.out.size; omega)
   obtain ⟨xb, xo, rfl, aw1, nw1, cw1, aa1, na1, ca1, g0, g1, g2, g3, g4, g5, m6⟩ := ExsD.at args _ (ExsD.ext HXR.out args _ HX.out) k hka
   have M6 := hI m6
   have hHPA := fun (N : ZN) W (hW : Ext wr W) hN => HARG.out k hka _ N W (HXR.out.trans hW) hN (M6.out.ext hW)
   obtain ⟨q, hq⟩ : ∃ q, q = pfF s l f (g + 1) args[k] := ⟨_, rfl⟩
   rw [<- hq] at hHPA
   have HQK := hI hq
   unfold exV at hHPA
   have HPA := hI hHPA
   obtain ⟨x0, hx0⟩ : ∃ x0, x0 = args[k].op := ⟨_, rfl⟩
   obtain ⟨x1, hx1⟩ : ∃ x1, x1 = args[k].name := ⟨_, rfl⟩
   obtain ⟨x5, hx5⟩ : ∃ x5, x5 = args[k].lo := ⟨_, rfl⟩
   obtain ⟨x6, hx6⟩ : ∃ x6, x6 = args[k].hi := ⟨_, rfl⟩
   rw [<- hx0] at g0 HPA
   rw [<- hx1] at g1 HPA
   rw [<- hx5] at g3 HPA
   rw [<- hx6] at g4 HPA
   clear hq m6 hHPA hx0 hx1 hx5 hx6
   go_upto_region 16 with fail
   refine wp_region_growLG (n := 109) (m := 10) [] (GnBx wr prZero (PdP q) ((b6 + 1 + 1) :: b11 :: M) 8 9) GrE (GrP (rpf16O op b6 sa sn sc a n c fa fn fc k name aw nw cw lo hi xb xo na ca x0 x1 aw1 nw1 cw1 x5 x6 aa1 na1 ca1 )) (by kernel_rfl) (by kernel_rfl) (Nat.le_of_ble_eq_true rfl) ?gd gnbx_start ?_ ?_ ?_
   case gd =>
    intro i o j b hi ho hg
    rcases ltc10 hi with rfl | rfl | rfl | rfl | rfl | rfl | rfl | rfl | rfl | rfl <;> (cases ho; first | (cases hg; done) | (cases hg; intro v W h; exact h))
   ·intro i k v W W' hi hk hne hout h hE
    have hE : Ext W W' := hE
    have hi' := ltc10 hi
    clear hi hk hne hout
    rcases hi' with rfl | rfl | rfl | rfl | rfl | rfl | rfl | rfl | rfl | rfl
    ·exact h
    ·exact h
    ·exact h
    ·exact h
    ·exact h
    ·exact h
    ·exact h
    ·exact h
    ·obtain ⟨e0, h⟩ := h
     exact ⟨e0, trivial⟩
    obtain ⟨e0, h⟩ := h
    exact ⟨e0, trivial⟩
   ·intro q op hq ho L vs W hqL hcL hW hd ρ hρ
    have hq' := ltc10 hq
    clear hq
    have o4 : ρ (.tmp 4) = .pointer (some ⟨b6, 0, none⟩) := hρ.out 4 rfl
    have o1 : ρ (.tmp 1) = .slice a n c := hρ.out 1 rfl
    have o6 : ρ (.tmp 6) = .pointer (some ⟨b6 + 1, 0, none⟩) := hρ.out 6 rfl
    have i2 := hρ.i 2 84
    have o15 : ρ (.tmp 15) = .int .i64 ((k : Nat) : Int) := hρ.out 15 rfl
    have i3 := hρ.i 3 85
    have i4 := hρ.i 4 86
    have i5 := hρ.i 5 87
    have o3 : ρ (.tmp 3) = .slice fa fn fc := hρ.out 3 rfl
    have i0 := hρ.i 0 82
    have i1 := hρ.i 1 83
    have i6 := hρ.i 6 88
    have i7 := hρ.i 7 89
    have hc := hρ.const
    have hfn := hρ.func
    clear hρ
    have HG := hI hW
    have HW := hI (show Ext wr W from hW.1)
    have HQL := hI hqL
    clear hW hqL hcL
    rcases hq' with rfl | rfl | rfl | rfl | rfl | rfl | rfl | rfl | rfl | rfl
    ·cases ho
     clear hd
     have g0 := HW.out.cell e0
     unfold GivesOp
     go_simp
     exact ⟨Ext.refl W, gnbx_step (pdP_mono _) (by decide) (by decide) HG.out (Ext.refl W), rfl⟩
    ·cases ho
     clear hd
     unfold GivesOp
     go_simp
     exact ⟨Ext.refl W, gnbx_step (pdP_mono _) (by decide) (by decide) HG.out (Ext.refl W), rfl⟩
    ·cases ho
     clear hd
     unfold GivesOp
     go_simp
     exact ⟨Ext.refl W, gnbx_step (pdP_mono _) (by decide) (by decide) HG.out (Ext.refl W), rfl⟩
    ·cases ho
     have h2 : vs 2 = _ := hd ⟨2, .data⟩ (by simp) rfl
     rw [h2] at i2
     clear hd
     have g5 := HW.out.cell f5
     unfold GivesOp
     go_simp
     exact ⟨Ext.refl W, gnbx_step (pdP_mono _) (by decide) (by decide) HG.out (Ext.refl W), rfl⟩
    ·cases ho
     clear hd
     unfold GivesOp
     go_simp
     exact ⟨Ext.refl W, gnbx_step (pdP_mono _) (by decide) (by decide) HG.out (Ext.refl W), rfl⟩
    ·cases ho
     have h3 : vs 3 = _ := hd ⟨3, .data⟩ (by simp) rfl
     rw [h3] at i3
     have h4 : vs 4 = _ := hd ⟨4, .data⟩ (by simp) rfl
     rw [h4] at i4
     clear hd
     unfold GivesOp
     go_simp
     exact ⟨Ext.refl W, gnbx_step (pdP_mono _) (by decide) (by decide) HG.out (Ext.refl W), rfl⟩
    ·cases ho
     have h5 : vs 5 = _ := hd ⟨5, .data⟩ (by simp) rfl
     rw [h5] at i5
     clear hd
     have g0 := HW.out.cell g0
     have g1 := HW.out.cell g1
     have g2 := HW.out.cell g2
     have g3 := HW.out.cell g3
     have g4 := HW.out.cell g4
     have g5 := HW.out.cell g5
     unfold GivesOp
     go_simp
     exact ⟨Ext.refl W, gnbx_step (pdP_mono _) (by decide) (by decide) HG.out (Ext.refl W), rfl⟩
    ·cases ho
     clear hd
     unfold GivesOp
     go_simp
     exact ⟨Ext.refl W, gnbx_step (pdP_mono _) (by decide) (by decide) HG.out (Ext.refl W), rfl⟩
    ·cases ho
     have h0 : vs 0 = _ := hd ⟨0, .data⟩ (by simp) rfl
     rw [h0] at i0
     have h1 : vs 1 = _ := hd ⟨1, .data⟩ (by simp) rfl
     rw [h1] at i1
     have h6 : vs 6 = _ := hd ⟨6, .data⟩ (by simp) rfl
     rw [h6] at i6
     have h7 : vs 7 = _ := hd ⟨7, .data⟩ (by simp) rfl
     rw [h7] at i7
     clear hd
     unfold GivesOp
     go_simp
     obtain ⟨Y, hY1, hY2⟩ := gnbx_call (by decide) HMA.out HG.out
     refine (HPA.out (Y ++ ((b6 + 1 + 1) :: b11 :: M)) W HW.out hY1).mono ?_
     rintro e5 w5 ⟨pv, rfl, hpv, hx5⟩
     exact ⟨_, rfl, hx5, hY2 _ _ hx5 ⟨_, rfl, hpv⟩, rfl, trivial⟩
    cases ho
    clear hd
    unfold GivesOp
    go_simp
    exact ⟨(Ext.refl W).alloc _, gnbx_alloc (pdP_mono _) (by decide) rfl HG.out, rfl, trivial⟩
   intro L vs W hLm hW hR
   rw [if_neg (by decide +kernel)]
   obtain ⟨y, h9, q1, q2, pv, h8, q3⟩ := gnbx_end (pdP_mono _) hW (hLm 8 (by omega)) (hLm 9 (by omega))
   have HYB := hI (And.intro q1 q2)
   have HPV := hI q3
   clear q1 q2 q3
   unfold PrV.val at h8
   refine wpOp_lastG rfl ?_
   change wpList _ _ _ [⟨none, .store _ (.tmp 16) (.tmp 90), _, _, _, none⟩] _ _
   simp only [acts, dstAt, List.range, List.range.loop, List.foldl_cons, List.foldl_nil, h8, h9]
   go_simp
   have hW2 : Ext wr W := hW.1
   clear hR hW hLm h8 h9
   -- x lies in its box
   obtain ⟨pb, pk, pa, pn, pc⟩ := pv
   have HPP := hI (show pb = q.value from HPV.out.parts.1)
   obtain ⟨W1, hW1⟩ : ∃ W1, W1 = put3 W y (.bool pb) (.int .i64 pk) (.slice pa pn pc) := ⟨_, rfl⟩
   have hyb : W.heap[y]? = some prZero := HYB.out.1
   have HY1 := hI (show W1.heap[y]? = some (.cells #[.bool pb, .int .i64 pk, .slice pa pn pc] 40 (0, 0)) by rw [hW1]; exact put3_blk hyb _ _ _)
   have hcy : Chg [y] W W1 := by rw [hW1]; exact put3_chg W y (.bool pb) (.int .i64 pk) (.slice pa pn pc) (by simp)
   have hys : wr.heap.size <= y := HYB.out.2
   have HXX := hI (show Ext wr W1 from hcy.ext hW2 (fun z hz => by simp only [List.mem_singleton] at hz; omega))
   have HPV1 := hI (show IsPr (mask W1 ((b6 + 1 + 1) :: b11 :: M)) q ⟨pb, pk, pa, pn, pc⟩ from HPV.out.mono (mask_sub_mask fun k hk hn => ⟨fun hm => hn (List.mem_cons_of_mem _ hm), hcy.block k hk fun hm => hn (by simp only [List.mem_singleton] at hm; simp [hm])⟩))
   obtain ⟨u0, u1, u2, uf⟩ := blk3 hyb
   have hlty := blk_lt hyb
   clear f0 f1 f2 f3 f4 f5 ff e0 ef g0 g1 g2 g3 g4 g5 hyb hcy HPV HYB hW2
   go_upto_region 17 with fail
   unfold put3 at hW1
   rw [<- hW1]
   clear hW1 u0 u1 u2 uf hlty
   have HD0 := hI (HXX.out.blk HC0.out)
   have HD1 := hI (HXX.out.blk HC1.out)
   have HD2 := hI (HXX.out.blk HC2.out)
   have HBP1 := hI (HXX.out.blk HBP.out)
   have HX1 := hI (HXR.out.trans HXX.out)
   have HSZ1 := hI (show b11 < y /\ y < W1.heap.size from ⟨by have := HSZ.out; omega, blk_lt HY1.out⟩)
   clear HC0 HC1 HC2 HBP HXR HXX HMA hys
   obtain ⟨u0, u1, u2, uf⟩ := blk3 HY1.out
   obtain ⟨p0, p1, p2, pf'⟩ := blk3 HBP1.out
   by_cases hpV : pb = V
   ·replace hpV := hpV.symm
    subst hpV
    have HQ := hI (show pfF s l f (g + 1) (.mk op name words lo hi args) = .mk V (k : Int) [q] by rw [HQK.out]; exact HQ1.out k hka (by rw [<- HQK.out]; exact HPP.out.symm) HNO.out)
    clear HQ1 HNO
    go_upto_region 20 with fail
    have HN11 := hI (show b11 ∉ ([] : ZN) by simp)
    refine wp_region_growLG (n := 109) (m := 6) [2, 4, 5] (GnRb W1 b11 4) (GnRe b11 4) (GrP (rpf20R b11 y k V pk pa pn pc)) (by kernel_rfl) (by kernel_rfl) (Nat.le_of_ble_eq_true rfl) ?gd gnrb_start ?_ ?_ ?_
    case gd =>
     intro i o j b hi ho hg
     rcases ltc6 hi with rfl | rfl | rfl | rfl | rfl | rfl <;> (cases ho; first | (cases hg; done) | (cases hg; intro v W h; exact h))
    ·intro i k v W W' hi hk hne hout h hE
     have hi' := ltc6 hi
     clear hi hk
     by_cases hk : k = 4
     ·subst hk
      have hE : Chg [b11] W W' := by have h9 := hE; unfold GnRe at h9; rwa [if_pos rfl] at h9
      rcases hi' with rfl | rfl | rfl | rfl | rfl | rfl
      ·exact h
      ·exact h
      ·obtain ⟨y2, e0, h⟩ := h
       exact ⟨y2, e0, ⟨hE.blk h.1 (by have := h.2; simp; omega), h.2⟩⟩
      ·exact h
      ·exact absurd rfl hne
      exact h
     have hE : Ext W W' := (by have h9 := hE; unfold GnRe at h9; rwa [if_neg hk] at h9)
     rcases hi' with rfl | rfl | rfl | rfl | rfl | rfl
     ·exact h
     ·exact h
     ·obtain ⟨y2, e0, h⟩ := h
      exact ⟨y2, e0, ⟨hE.blk h.1, h.2⟩⟩
     ·exact h
     ·exact hE.blk h
     exact h
    ·intro q op hq ho L vs W hqL hcL hW hd ρ hρ
     have hq' := ltc6 hq
     clear hq
     have o15 : ρ (.tmp 15) = .int .i64 ((k : Nat) : Int) := hρ.out 15 rfl
     have o16 : ρ (.tmp 16) = .pointer (some ⟨y, 0, none⟩) := hρ.out 16 rfl
     have i1 := hρ.i 1 104
     have o9 : ρ (.tmp 9) = .pointer (some ⟨b11, 0, none⟩) := hρ.out 9 rfl
     have i3 := hρ.i 3 106
     have i0 := hρ.i 0 103
     have hc := hρ.const
     have hfn := hρ.func
     clear hρ
     have HG := hI hW
     have HW := hI (show Chg [b11] W1 W from hW.1)
     have HQL := hI hqL
     clear hW hqL hcL
     rcases hq' with rfl | rfl | rfl | rfl | rfl | rfl
     ·cases ho
      clear hd
      unfold GivesOp
      go_simp
      exact ⟨Ext.refl _, gnrb_step HG.out (Ext.refl _), rfl⟩
     ·cases ho
      clear hd
      have g0 := chg_cell HW.out u0 (by have := HSZ1.out; simp; omega)
      have g1 := chg_cell HW.out u1 (by have := HSZ1.out; simp; omega)
      have g2 := chg_cell HW.out u2 (by have := HSZ1.out; simp; omega)
      unfold GivesOp
      go_simp
      exact ⟨Ext.refl _, gnrb_step HG.out (Ext.refl _), rfl⟩
     ·cases ho
      have h1 : vs 1 = _ := hd ⟨1, .data⟩ (by simp) rfl
      rw [h1] at i1
      clear hd
      unfold GivesOp
      go_simp
      exact ⟨(Ext.refl W).alloc _, gnrb_step HG.out ((Ext.refl W).alloc _), W.heap.size, rfl, alloc_new W _, by have := HSZ1.out; have := HW.out.size; omega⟩
     ·cases ho
      clear hd
      unfold GivesOp
      go_simp
      exact ⟨Ext.refl _, gnrb_step HG.out (Ext.refl _), rfl⟩
     ·cases ho
      have h3 : vs 3 = _ := hd ⟨3, .data⟩ (by simp) rfl
      rw [h3] at i3
      have h0 : vs 0 = _ := hd ⟨0, .data⟩ (by simp) rfl
      rw [h0] at i0
      clear hd
      have hpb := (HG.out.2 HQL.out).blk HBP1.out
      obtain ⟨v0, v1, v2, vf⟩ := blk3 hpb
      unfold GivesOp
      go_simp
      have hcs : Chg [b11] W (W.setCell ⟨b11, 1, none⟩ (.int .i64 (k : Int))) := put_chg _ _ _ _
      have hst : (W.setCell ⟨b11, 1, none⟩ (.int .i64 (k : Int))).heap[b11]? = some (.cells #[.bool V, .int .i64 (k : Int), .slice none 0 0] 40 (0, 0)) := by have := put_blk (i := 1) hpb (.int .i64 (k : Int)); simpa using this
      exact ⟨hcs, gnrb_brk HG.out hcs, hst⟩
     cases ho
     clear hd
     unfold GivesOp
     go_simp
     exact ⟨Ext.refl _, gnrb_step HG.out (Ext.refl _), rfl⟩
    intro L vs W hLm hW hR
    rw [if_neg (by decide +kernel)]
    obtain ⟨y2, h2, hs2⟩ : ∃ (y2 : Nat), vs 2 = .slice (some ⟨y2, 0, none⟩) 1 1 /\ (W.heap[y2]? = some (.cells #[.bool V, .int .i64 pk, .slice pa pn pc] 40 (0, 0)) /\ b11 < y2) := hR 2 (by simp) (by omega)
    have HS2 := hI hs2
    clear hs2
    have HS4 := hI (show W.heap[b11]? = some (.cells #[.bool V, .int .i64 (k : Int), .slice none 0 0] 40 (0, 0)) from hR 4 (by simp) (by omega))
    have h5 : vs 5 = .pointer (some ⟨b11, 2, none⟩) := hR 5 (by simp) (by omega)
    refine wpOp_lastG rfl ?_
    change wpList _ _ _ [⟨none, .store _ (.tmp 107) (.tmp 105), _, _, _, none⟩] _ _
    simp only [acts, dstAt, List.range, List.range.loop, List.foldl_cons, List.foldl_nil, h2, h5]
    go_simp
    have hW2 : Chg [b11] W1 W := hW.1
    clear hR hW hLm h2 h5
    have HSX := hI HS2.out
    have HSB := hI HS4.out
    clear HS2 HS4 u0 u1 u2 uf p0 p1 p2 pf'
    have HXW := hI hW2
    obtain ⟨W3, hW3⟩ : ∃ W3, W3 = W.setCell ⟨b11, 2, none⟩ (.slice (some ⟨y2, 0, none⟩) 1 1) := ⟨_, rfl⟩
    have hpw : W.heap[b11]? = some (.cells #[.bool V, .int .i64 (k : Int), .slice none 0 0] 40 (0, 0)) := HSB.out
    have hc3 : Chg [b11] W W3 := by rw [hW3]; exact put_chg _ _ _ _
    have HP3 := hI (show W3.heap[b11]? = some (.cells #[.bool V, .int .i64 (k : Int), .slice (some ⟨y2, 0, none⟩) 1 1] 40 (0, 0)) by rw [hW3]; have := put_blk (i := 2) hpw (.slice (some ⟨y2, 0, none⟩) 1 1); simpa using this)
    obtain ⟨p0, p1, p2, pf'⟩ := blk3 hpw
    go_upto_region 21 with fail
    rw [<- hW3]
    clear hW3 p0 p1 p2 pf' hW2 hpw
    have HZ3 := hI (hc3.blk (HXW.out.blk HD2.out (by have := HLT.out; simp; omega)) (by have := HLT.out; simp; omega))
    have HX3 := hI (hc3.ext (HXW.out.ext HX1.out (fun z hz => by simp only [List.mem_singleton] at hz; have := HLT.out; have := HB6.out; omega)) (fun z hz => by simp only [List.mem_singleton] at hz; have := HLT.out; have := HB6.out; omega))
    have HY3 := hI (hc3.blk HSX.out.1 (by have := HSX.out.2; simp; omega))
    have HQ3 := hI (show IsPr (mask W3 ((b6 + 1 + 1) :: M)) q ⟨V, pk, pa, pn, pc⟩ from ((HPV1.out.mono (mask_chg HXW.out (fun z hz => by simp only [List.mem_singleton] at hz; simp [hz]))).mono (mask_chg hc3 (fun z hz => by simp only [List.mem_singleton] at hz; simp [hz]))).mono (mask_less _ (fun z hz => by simp only [List.mem_cons] at hz ⊢; rcases hz with h | h <;> simp [h])))
    have hys := HSX.out.2
    clear hc3
    have HIP := hI (isPr_one (v := ⟨V, pk, pa, pn, pc⟩) (t := 40) HY3.out (fun hm => by
     have h1 := HLT.out; have h2 := HB6.out
     simp only [List.mem_cons] at hm
     rcases hm with hm | hm
     ·omega
     have := HM.out _ hm; omega) HQ3.out V (k : Int))
    obtain ⟨p0, p1, p2, pf'⟩ := blk3 HP3.out
    have hz : W3.heap[b6 + 1 + 1]? = some (.cells #[.bool false, .int .i64 0, .slice none 0 0] 40 (0, 0)) := HZ3.out
    obtain ⟨r0, r1, r2, rf⟩ := blk3 hz
    have hltr := blk_lt hz
    have HZ := hI (show _ /\ _ from prove_fin (w := w) (M := M) (pv := ⟨V, k, some ⟨y2, 0, none⟩, 1, 1⟩) HZ3.out (by have := HB6.out; omega) HX3.out HIP.out)
    simp only at HZ
    go_wp2_with fail
    obtain ⟨wz, hwz⟩ : ∃ wz, wz = put3 W3 (b6 + 1 + 1) (.bool V) (.int .i64 (k : Int)) (.slice (some ⟨y2, 0, none⟩) 1 1) := ⟨_, rfl⟩
    rw [<- hwz] at HZ
    unfold put3 at hwz
    rw [<- hwz]
    clear hwz
    obtain ⟨z0, z1, z2, zf⟩ := blk3 HZ.out.1
    refine bodyPost_ret (v := PrV.val ⟨V, k, some ⟨y2, 0, none⟩, 1, 1⟩) (by simp [results, Tryz.results16, go_sem, PrV.val, z0, z1, z2]) rfl ?_
    rw [HQ.out]
    exact HZ.out.2
   obtain ⟨nV, hnV⟩ : ∃ nV, nV = pb := ⟨_, rfl⟩
   have t9 : (pb == V) = false := by simp [hpV]
   have HNP := hI hpV
   clear hpV hnV
   go_upto_region 15 with fail
   clear u0 u1 u2 uf p0 p1 p2 pf'
   go_wp2_with fail
   go_roundw
   case rel => exact ⟨k + 1, by go_num, by omega, fun j hj hjk => by
    rcases Nat.lt_or_ge j k with h | h
    ·exact HNO.out j hj h
    have : j = k := by omega
    subst this
    rw [<- HQK.out, <- HPP.out]; exact HNP.out, HD0.out, HD1.out, HD2.out, HBP1.out, HX1.out⟩
   case measure => simp [intOf]; omega
  exfalso
  exact HNO.out j0 hj0 (by have := HNA.out; omega) (by rw [pfF_value]; exact HJV.out)
theorem rproof_calls (s : List Attr) (l : List Cla) (f : ZI) (hc : Chk s l) (hfa : factsAll s f = true) (hsf : ∀ x ∈ s, x.fits) (a : OA) (n c : Nat) (fa : OA) (fn fc : Nat) (sa : OA) (sn sc : Nat) : ∀ (g m : Nat) (e : Ex) (ev : Value) (M : ZN) (w : World), e.size <= m -> m <= 1000000 -> okTree e -> nodesErr s l e = 0 -> expF l g e <= 2000 -> (∀ y ∈ M, y < w.heap.size) -> IsSchema w s (.agg #[.slice sa sn sc]) -> IsClas w l a n c -> IsIntF w f fa fn -> IsEx w e ev ->
  Calls Tryz.prog 16 #[.agg #[.slice sa sn sc], .slice a n c, ev, .slice fa fn fc] w (ProveQ (pfF s l f g e) M w) := by
 intro g
 induction g with
 | zero => intro m e ev M w _ _ _ _ h; simp [expF] at h
 | succ g ihg =>
  intro m
  induction m with
  | zero => intro e ev M w h; have := size_pos e; omega
  | succ m ihm =>
   intro e ev M w hm hMM hok hnd hex hM hs hl hi he
   have hways := node_kinds hc hok hnd
   have hfw := fact_ways hok hnd
   have HTR := fun W (hW : Ext w W) => rTruth_calls s l f hc hfa hsf a n c fa fn fc (g + 1) (m + 1) e ev (.agg #[.slice sa sn sc]) W hm hMM hok hnd hex (hs.mono hW.sub) (hl.ext hW) (he.ext hW) (hi.mono hW.sub)
   obtain ⟨-, hnda⟩ := nodes_parts hnd
   obtain ⟨hokn, hoka⟩ := okTree_parts hok
   have hexa := expE_arg (D := dOf l g) (e := e) (by rw [<- expF_succ]; exact hex)
   have hexh := expE_hd (D := dOf l g) (e := e) (by rw [<- expF_succ]; exact hex)
   have HARG := fun (j : Nat) (hj : j < e.args.length) (xv : Value) (N : ZN) (W : World) (hW : Ext w W) (hN : ∀ y ∈ N, y < W.heap.size) (hxv : IsEx W e.args[j] xv) => ihm e.args[j] xv N W (by have h1 := sizes_take_succ e.args j hj; have h2 := sizes_take_le e.args (j + 1); have h3 := e.size_eq; omega) (by omega) (hoka _ (List.getElem_mem hj)) (hnda j hj) (by rw [expF_succ]; exact hexa j hj) hN (hs.mono hW.sub) (hl.ext hW) (hi.mono hW.sub) hxv
   have HDEF := fun (h3 : e.op = 3) (d : Nat) (hdd : defAt l e.name = some d) (xv : Value) (N : ZN) (W : World) (hW : Ext w W) (hN : ∀ y ∈ N, y < W.heap.size) (hxv : IsEx W (l.getD d cla0).cond xv) => ihg 300 (l.getD d cla0).cond xv N W (hc.cond (defAt_atK hdd).1).2.2 (by omega) (hc.cond (defAt_atK hdd).1).1 (hc.cond (defAt_atK hdd).1).2.1 (hexh h3 (by unfold dOf; rw [hdd]; rfl)) hN (hs.mono hW.sub) (hl.ext hW) (hi.mono hW.sub) hxv
   have hsl6 := (schema_attrs hc.sch).2.1
   have HIX := fun W (hW : Ext w W) => rIndex_calls s (.agg #[.slice sa sn sc]) e.name W (hs.mono hW.sub) (by omega)
   have HDN := fun W (hW : Ext w W) => (rDef_calls l a n c e.name W (hl.ext hW) (by have := hl.len; have := hc.len; omega)).mono (R' := GivesE (optV (defAt l e.name)) W) fun r w' h => ⟨h.1, h.2 ▸ Ext.refl _⟩
   obtain ⟨aw, nw, cw, aa, na, ca, rfl, hw, hna, hca, ha, hx⟩ := he.parts
   have hna2 : e.args.length <= 1000000 := by have h1 := length_le_sizes e.args; have h3 := e.size_eq; omega
   obtain ⟨op, name, words, lo, hi', args⟩ := e
   simp only [Ex.op, Ex.name, Ex.words, Ex.lo, Ex.hi, Ex.args] at *
   have HI : ∀ V, valF s l f (g + 1) (.mk op name words lo hi' args) = V -> RpfIn s l f g op name args lo hi' V w M a n c fa fn fc sa sn sc aw nw cw aa na ca := fun V hV => ⟨by rw [<- hV]; exact HTR, HARG, hM, hx, hna, hna2⟩
   rcases hways with ⟨h6, hdn⟩ | ⟨rfl, hat, d, hdf⟩ | ⟨rfl, hl1⟩ | rfl | rfl
   ·refine rpf_factC rfl h6 hdn (fun h3 => ?_) HIX (HI _ rfl)
    subst h3
    rcases hfw h6 hdn with h | h | ⟨-, h⟩ | ⟨h, -⟩ | ⟨h, -⟩
    ·omega
    ·omega
    ·exact h
    ·omega
    omega
   ·exact rpf_defC rfl hdf hat HIX hl HDN (HDEF rfl d hdf) (HI _ rfl)
   ·exact rpf_notC rfl hl1 (HI _ rfl)
   ·cases hv : valF s l f (g + 1) (.mk 7 name words lo hi' args)
    ·exact rpf_oneC (Or.inl ⟨rfl, rfl⟩) hv (HI _ hv)
    exact rpf_allC (Or.inl ⟨rfl, rfl⟩) hv (HI _ hv)
   cases hv : valF s l f (g + 1) (.mk 8 name words lo hi' args)
   ·exact rpf_allC (Or.inr ⟨rfl, rfl⟩) hv (HI _ hv)
   exact rpf_oneC (Or.inr ⟨rfl, rfl⟩) hv (HI _ hv)
theorem pr0_fit : pr0.fit := .mk (by simp) (by simp)
theorem sevP_fit {d : Bool} {l : List Pr} (hl : l.length <= 1000000000000000) (h : ∀ q ∈ l, q.fit) : (sevP d l).fit := by
 unfold sevP
 split
 ·rename_i k hk
  refine .mk (by simp) fun q hq => ?_
  simp only [List.mem_singleton] at hq
  subst hq
  by_cases hkl : k < l.length
  ·rw [List.getD_eq_getElem?_getD, List.getElem?_eq_getElem hkl]
   exact h _ (List.getElem_mem hkl)
  rw [List.getD_eq_getElem?_getD, List.getElem?_eq_none (by omega)]
  exact pr0_fit
 exact .mk hl h
theorem pfE_fit {s : List Attr} {f : ZI} {D : BA -> Option Pr} (hD : ∀ x p, D x = some p -> p.fit) : ∀ (m : Nat) (e : Ex), e.size <= m -> m <= 1000000 -> (pfE s f D e).fit := by
 intro m
 induction m with
 | zero => intro e h; have := size_pos e; omega
 | succ m ih =>
  intro e hm hM
  have hargs : ∀ x ∈ e.args, (pfE s f D x).fit := fun x hx => by
   obtain ⟨j, hj, rfl⟩ := List.getElem_of_mem hx
   have h1 := sizes_take_succ e.args j hj
   have h2 := sizes_take_le e.args (j + 1)
   have h3 := e.size_eq
   exact ih _ (by omega) (by omega)
  have hlen : e.args.length <= 1000000 := by have h1 := length_le_sizes e.args; have h3 := e.size_eq; omega
  rw [pfE_eq]
  by_cases h6 : e.op = 6
  ·rw [if_pos h6, pfHd_at]
   unfold notP
   refine .mk (by simp) fun q hq => ?_
   simp only [List.mem_singleton] at hq
   subst hq
   cases ha : e.args with
   | nil => exact pr0_fit
   | cons x r => exact hargs x (by rw [ha]; simp)
  rw [if_neg h6]
  by_cases h78 : e.op = 7 \/ e.op = 8
  ·rw [if_pos h78, pfL_map]
   refine sevP_fit (by simp; omega) fun q hq => ?_
   obtain ⟨x, hx, rfl⟩ := List.mem_map.1 hq
   exact hargs x hx
  rw [if_neg h78]
  unfold refP
  split
  ·rename_i q hq
   refine .mk (by simp) fun p hp => ?_
   simp only [List.mem_singleton] at hp
   subst hp
   by_cases h3 : e.op = 3
   ·rw [if_pos h3] at hq; exact hD _ _ hq
   rw [if_neg h3] at hq; cases hq
  exact .mk (by simp) (by simp)
theorem pfF_fit {s : List Attr} {l : List Cla} {f : ZI} (hc : Chk s l) : ∀ (k : Nat) (e : Ex), e.size <= 1000000 -> (pfF s l f k e).fit := by
 intro k
 induction k with
 | zero => intro e _; exact pr0_fit
 | succ k ih =>
  intro e he
  rw [pfF]
  refine pfE_fit (fun x p hp => ?_) 1000000 e he (Nat.le_refl _)
  cases hd : defAt l x with
  | none => rw [hd] at hp; cases hp
  | some d =>
   rw [hd] at hp
   simp only [Option.map_some, Option.some.injEq] at hp
   rw [<- hp]
   exact ih _ (Nat.le_trans (hc.cond (defAt_atK hd).1).2.2 (by omega))
theorem Ok11.rproof {s : List Attr} {l : List Cla} {e : Ex} {f : ZI} (ho : Ok11 s l e f) (hsf : ∀ x ∈ s, x.fits) {a : OA} {n c : Nat} {fa : OA} {fn : Nat} (fc : Nat) {sa : OA} {sn sc : Nat} {ev : Value} {W : World} (hs : IsSchema W s (.agg #[.slice sa sn sc])) (hl : IsClas W l a n c) (hi : IsIntF W f fa fn) (he : IsEx W e ev) :
  Calls Tryz.prog 16 #[.agg #[.slice sa sn sc], .slice a n c, ev, .slice fa fn fc] W (ProveQ (pf s l f e) [] W) :=
 rproof_calls s l f ho.chk ho.facts hsf a n c fa fn fc sa sn sc (l.length + 1) 300 e ev [] W ho.size (by omega) ho.tree ho.node ho.exp (by simp) hs hl hi he
def sch2 : List Attr := [⟨⟨#[97]⟩, 3, [], 0, 0⟩, ⟨⟨#[114, 111, 108, 101]⟩, 1, [⟨#[99, 114, 101, 119]⟩, ⟨#[103, 117, 101, 115, 116]⟩], 0, 0⟩, ⟨⟨#[98]⟩, 3, [], 0, 0⟩]
def SchIQ (l : List Attr) (w : World) (e : Ending) (w' : World) : Prop := ∃ v, e = .returned v /\ IsSchema w' l v /\ Ext w w'
theorem schIQ_mk {w W : World} {g n : Nat} {l : List Attr} (avs : List AttrV) {t : TypeId} (h : W.heap[g]? = some (.cells (avs.flatMap AttrV.cells).toArray t (0, 0))) (hn : n = avs.length) (hl : avs.map (·.x) = l) (hs : ∀ v ∈ avs, IsStrs W v.x.words v.a v.n v.c) (hx : Ext w W) :
  SchIQ l w (.returned (.agg #[.slice (some ⟨g, 0, none⟩) n n])) W :=
 ⟨_, rfl, hl ▸ isSchema_block h hn hs, hx⟩
theorem within_at (x n r : Int) (w : World) (hn : 0 < n) (hn2 : n <= 1000000000000000000) (hr : (x.tmod n + n).tmod n = r) : Calls Tryz.prog 26 #[.int .i64 x, .int .i64 n] w (fun e w' => e = .returned (.int .i64 r) /\ w' = w) := by
 go_enter Tryz.func26, Tryz.ntmps26
 go_wp2_with fail
 go_ret
 have a1 := Int.tmod_lt_of_pos x hn
 have a5 := Int.lt_tmod_of_pos x hn
 rw [IntWalk.wrap64_in (x.tmod n + n) (by omega), hr]
 exact ⟨rfl, rfl⟩
theorem schema2_calls (w : World) : Calls Tryz.prog 27 #[.int .i64 2] w (SchIQ sch2 w) := by
 go_enter Tryz.func27, Tryz.ntmps27
 go_wp2_with fail
 refine (within_at 2 6 2 _ (by omega) (by omega) (by decide)).mono ?_
 rintro e w' ⟨rfl, rfl⟩
 go_wp2_with fail
 refine bodyPost_ret (v := .agg #[.slice (some ⟨w.heap.size + 2, 0, none⟩) 3 3]) (by simp [results, Tryz.results27, go_sem]) rfl ?_
 refine schIQ_mk [⟨⟨⟨#[97]⟩, 3, [], 0, 0⟩, none, 0, 0⟩, ⟨⟨⟨#[114, 111, 108, 101]⟩, 1, [⟨#[99, 114, 101, 119]⟩, ⟨#[103, 117, 101, 115, 116]⟩], 0, 0⟩, some ⟨w.heap.size + 1, 0, none⟩, 2, 2⟩, ⟨⟨⟨#[98]⟩, 3, [], 0, 0⟩, none, 0, 0⟩] (t := 85) ?_ rfl rfl ?_ ((((Ext.refl _).alloc _).alloc _).alloc _)
 ·simpa [AttrV.cells] using alloc_new ((w.alloc (.cells #[.slice (some ⟨w.heap.size + 2, 0, none⟩) 3 3] 31)).alloc (.cells #[.string ⟨#[99, 114, 101, 119]⟩, .string ⟨#[103, 117, 101, 115, 116]⟩] 9)) (.cells #[.string ⟨#[97]⟩, .int .i64 3, .slice none 0 0, .int .i64 0, .int .i64 0, .string ⟨#[114, 111, 108, 101]⟩, .int .i64 1, .slice (some ⟨w.heap.size + 1, 0, none⟩) 2 2, .int .i64 0, .int .i64 0, .string ⟨#[98]⟩, .int .i64 3, .slice none 0 0, .int .i64 0, .int .i64 0] 85)
 intro v hv
 simp only [List.mem_cons, List.not_mem_nil, or_false] at hv
 rcases hv with rfl | rfl | rfl
 ·exact isStrs_nil _
 ·refine isStrs_block (t := 9) (blk_alloc ?_) rfl
  simpa using alloc_new (w.alloc (.cells #[.slice (some ⟨w.heap.size + 2, 0, none⟩) 3 3] 31)) (.cells #[.string ⟨#[99, 114, 101, 119]⟩, .string ⟨#[103, 117, 101, 115, 116]⟩] 9)
 exact isStrs_nil _
theorem clausesErr_nil {s : List Attr} (h : schemaErr s = 0) : clausesErr s [] = (0, 0) := by
 unfold clausesErr
 rw [if_neg (by simpa using h), if_neg (by simp)]
 have h1 : ∀ g, firstI g ([] : List Cla).length = (0, 0) := fun g => rfl
 rw [h1, if_neg (by simp), if_neg (by
  rw [Classical.not_not]
  exact ⟨[], List.nodup_nil, fun i => ⟨fun h => by simp at h, fun h => by have := isDef_lt h; simp at this⟩, fun k i h => by simp at h⟩)]
 exact h1 _
open Go.RowKit Go.Maps
def exA : Ex := .mk 3 ⟨#[97]⟩ [] 0 0 []
def exB : Ex := .mk 3 ⟨#[98]⟩ [] 0 0 []
def exAB : Ex := .mk 8 ⟨#[]⟩ [] 0 0 [exA, exB]
theorem awk_err : evalErr sch2 [] exAB [0, 0, 1] = 0 := by
 unfold evalErr
 rw [clausesErr_nil (by decide +kernel)]
 rw [if_neg (by decide), if_neg (by decide +kernel), if_neg (by decide +kernel), if_neg (by decide +kernel)]
theorem awk_pf : pf sch2 [] [0, 0, 1] exAB = .mk true 1 [.mk true (-1) []] := by kernel_rfl
theorem exs_two {w : World} {g : Nat} {t : TypeId} {a b : Ex} {va vb : ExV} (h : w.heap[g]? = some (.cells (va.cells ++ vb.cells).toArray t (0, 0))) (ha : IsEx w a va.val) (hb : IsEx w b vb.val) : ExsD w [a, b] (some ⟨g, 0, none⟩) := by
 refine ExsD.of [a, b] 0 [va, vb] rfl fun i h1 h2 => ?_
 have hi : i = 0 \/ i = 1 := by simp at h1; omega
 rcases hi with rfl | rfl
 ·refine ⟨fun j hj => ?_, ha⟩
  rw [blk_cell h]
  have h6 : j < va.cells.length := by simp [ExV.cells]; omega
  simp [List.getElem?_append_left, h6]
 refine ⟨fun j hj => ?_, hb⟩
 rw [blk_cell h]
 have e6 : va.cells.length = 6 := by simp [ExV.cells]
 simp [List.getElem?_append_right, e6, Nat.add_comm]
theorem in11_awk {w : World} {sv : Value} {xa : OA} {fa : OA} (hs : IsSchema w sch2 sv) (he : ExsD w [exA, exB] xa) (hx : OkAddr xa 2) (hi : IsIntF w [0, 0, 1] fa 3) (ho : HasOps w) : In11 w sch2 [] exAB [0, 0, 1] sv (exV 8 ⟨#[]⟩ none 0 0 0 0 xa 2 2) none 0 0 fa 3 where
 sch := hs
 sfit := by
  intro x hx
  simp only [sch2, List.mem_cons, List.not_mem_nil, or_false] at hx
  rcases hx with rfl | rfl | rfl <;> refine ⟨by decide, by simp, fun x hx => ?_⟩ <;> simp at hx
  rcases hx with rfl | rfl <;> decide
 slen := by simp [sch2]
 clas := ⟨[], ⟨rfl, Nat.le_refl _, Or.inl ⟨rfl, rfl⟩, fun i h => by simp at h⟩, rfl, fun i h => by simp at h⟩
 cn := by omega
 cfit := by simp
 ex := IsEx.mk (isStrs_nil _) rfl (Nat.le_refl _) hx he
 few := by simp [exAB, exA, exB, Ex.few, fewAll]
 fit := by simp [exAB, exA, exB, Ex.fits, fitsAll]; decide
 slim := by simp [exAB, exA, exB, Ex.slim, slimAll]
 ints := hi
 fnl := by omega
 ops := ho
theorem awake11_calls (w : World) (ho : HasOps w) : Calls Tryz.prog 11 #[] w (GivesE (.bool true) w) := by
 have HO := hI ho
 clear ho
 go_enter Tryz.func11, Tryz.ntmps11
 go_wp2_with fail
 refine (schema2_calls w).mono ?_
 rintro r w1 ⟨sv, rfl, hs, hx1⟩
 obtain ⟨sa, sn, sc, rfl, -⟩ := hs.slice
 have HS := hI hs
 have HX1 := hI hx1
 clear hs hx1
 go_upto_region 2 with fail
 obtain ⟨w2, hw2⟩ : ∃ w2, w2 = w1.alloc (.cells #[.slice sa sn sc] 31) := ⟨_, rfl⟩
 obtain ⟨b1, hb1⟩ : ∃ b1 : Nat, b1 = w1.heap.size := ⟨_, rfl⟩
 have HX2 := hI (show Ext w1 w2 by rw [hw2]; exact (Ext.refl _).alloc _)
 have HB1 := hI (show w2.heap[b1]? = some (.cells #[.slice sa sn sc] 31 (0, 0)) by rw [hw2, hb1]; exact alloc_new w1 _)
 rw [<- hw2, <- hb1]
 clear hw2 hb1
 go_upto_region 3 with fail
 obtain ⟨w3, hw3⟩ : ∃ w3, w3 = (w2.alloc (.cells #[.int .i64 3, .string ⟨#[97]⟩, .slice none 0 0, .int .i64 0, .int .i64 0, .slice none 0 0, .int .i64 3, .string ⟨#[98]⟩, .slice none 0 0, .int .i64 0, .int .i64 0, .slice none 0 0] 26)).alloc (.cells #[.int .i64 8, .string ⟨#[]⟩, .slice none 0 0, .int .i64 0, .int .i64 0, .slice (some ⟨w2.heap.size, 0, none⟩) 2 2] 26) := ⟨_, rfl⟩
 obtain ⟨y, hy⟩ : ∃ y : Nat, y = w2.heap.size := ⟨_, rfl⟩
 have hx3 : Ext w2 w3 := by rw [hw3]; exact ((Ext.refl _).alloc _).alloc _
 have HBR := hI (show w3.heap[y]? = some (.cells #[.int .i64 3, .string ⟨#[97]⟩, .slice none 0 0, .int .i64 0, .int .i64 0, .slice none 0 0, .int .i64 3, .string ⟨#[98]⟩, .slice none 0 0, .int .i64 0, .int .i64 0, .slice none 0 0] 26 (0, 0)) by rw [hw3, hy]; exact blk_alloc (alloc_new w2 _))
 have HBE := hI (show w3.heap[y + 1]? = some (.cells #[.int .i64 8, .string ⟨#[]⟩, .slice none 0 0, .int .i64 0, .int .i64 0, .slice (some ⟨y, 0, none⟩) 2 2] 26 (0, 0)) by rw [hw3, hy]; exact alloc_atR (by simp))
 rw [<- hw3, <- hy]
 have HX3 := hI (HX2.out.trans hx3)
 have HB13 := hI (hx3.blk HB1.out)
 clear hw3 hy hx3
 obtain ⟨e0, ef⟩ := blk1 HB13.out
 obtain ⟨f0, f1, f2, f3, f4, f5, ff⟩ := blk6 HBE.out
 obtain ⟨w4, hw4⟩ : ∃ w4, w4 = w3.alloc (.cells #[.int .i64 0, .int .i64 0, .int .i64 1] 3) := ⟨_, rfl⟩
 have hx4 : Ext w3 w4 := by rw [hw4]; exact (Ext.refl _).alloc _
 have HBF := hI (show w4.heap[w3.heap.size]? = some (.cells #[.int .i64 0, .int .i64 0, .int .i64 1] 3 (0, 0)) by rw [hw4]; exact alloc_new w3 _)
 have HPC := hI (proved_calls sch2 [] exAB [0, 0, 1] (.agg #[.slice sa sn sc]) _ none 0 0 (some ⟨w3.heap.size, 0, none⟩) 3 3 [] w4 (in11_awk (HS.out.ext ((HX3.out.trans hx4))) (exs_two (va := xvN ⟨#[97]⟩) (vb := xvN ⟨#[98]⟩) (hx4.blk HBR.out) (isEx_plain _ 3 0 0 _) (isEx_plain _ 3 0 0 _)) (Or.inr ⟨y, 0, rfl⟩) ⟨rfl, fun i hi => ⟨w3.heap.size, 0, rfl, by
  have hii : i = 0 \/ i = 1 \/ i = 2 := by simp at hi; omega
  rcases hii with rfl | rfl | rfl <;> (rw [blk_cell HBF.out]; rfl)⟩⟩ (HO.out.ext (HX1.out.trans (HX3.out.trans hx4)))) (by simp))
 unfold exV at HPC
 have HX4 := hI (HX1.out.trans (HX3.out.trans hx4))
 clear hx4
 go_wp2_with fail
 rw [<- hw4]
 clear hw4 e0 ef f0 f1 f2 f3 f4 f5 ff
 refine HPC.out.mono ?_
 rintro r w5 ⟨hx5, ⟨hz, -⟩ | ⟨-, pv, rfl, hpv⟩⟩
 ·exact absurd awk_err hz
 rw [awk_pf] at hpv
 obtain ⟨p1, p2, p3, -, -, p6⟩ := hpv.parts
 obtain ⟨b, off, q, pa, hq, c0, c1, c2⟩ := p6 0 (by simp [Pr.args])
 have hq2 := hq.parts.2.1
 obtain ⟨pb, pk, pa', pn, pc⟩ := pv
 simp only [Pr.value, Pr.pick, Pr.args, List.length_cons, List.length_nil, Nat.zero_add] at p1 p2 p3 pa hq2
 subst p1 p2 p3 pa
 simp only [Nat.zero_mul, Nat.add_zero] at c1
 rw [mask_cell, if_neg (by simp)] at c1
 simp only [List.getElem_cons_zero] at hq2
 rw [hq2] at c1
 have HX5 := hI (HX4.out.trans hx5)
 clear hx5 hpv p6 hq c0 c2 hq2 HPC
 unfold PrV.val
 have hltb := block_lt c1
 simp only at hltb
 go_wp2_with fail
 go_ret
 exact givesE_bool rfl (HX5.out.alloc _)
theorem IsWorld.lnl {w : World} {s : List Attr} {l : List Cla} {x : Ex} {f : ZI} {v : WorldV} (h : IsWorld w s l x f v) : v.ln <= 6 := by
 obtain ⟨vs, hr, hl, -⟩ := h.clas
 have := h.len
 have := hr.1
 omega
theorem IsWorld.in11 {w : World} {s : List Attr} {l : List Cla} {x : Ex} {f : ZI} {v : WorldV} (h : IsWorld w s l x f v) (ho : HasOps w) {e : Ex} {ev : Value} (he : IsEx w e ev) (h1 : e.few) (h2 : e.fits) (h3 : e.slim) {g : ZI} {ga : OA} {gn : Nat} (hg : IsIntF w g ga gn) (hgn : gn <= 1000000000000000) : In11 w s l e g (.agg #[.slice v.sa v.sn v.sc]) ev v.la v.ln v.lc ga gn :=
 ⟨h.sch, attrs_fits h.mem, Nat.le_trans (schemas_ok s h.mem).2.2 (by omega), h.clas, by have := h.lnl; omega, h.cfit, he, h1, h2, h3, hg, hgn, ho⟩
theorem IsWorld.own11 {w : World} {s : List Attr} {l : List Cla} {x : Ex} {f : ZI} {v : WorldV} (h : IsWorld w s l x f v) (ho : HasOps w) : In11 w s l x f (.agg #[.slice v.sa v.sn v.sc]) v.x.val v.la v.ln v.lc v.fa v.fn :=
 h.in11 ho h.ex h.okay.few h.okay.fits (slim_of_size _ (by have := h.okay.size; simp [bndS] at this; omega)) h.ints (by have := h.fnl; omega)
mutual
def samePr : Pr -> Pr -> Bool
 | .mk v k ps, .mk v' k' qs => (v == v') && (k == k') && samePrL ps qs
def samePrL : List Pr -> List Pr -> Bool
 | [], [] => true
 | p :: r, q :: t => samePr p q && samePrL r t
 | [], _ :: _ => false
 | _ :: _, [] => false
end
theorem samePr_eq (p q : Pr) : samePr p q = ((p.value == q.value) && (p.pick == q.pick) && samePrL p.args q.args) := by cases p; cases q; rw [samePr]; rfl
mutual
theorem samePr_refl : (p : Pr) -> samePr p p = true
 | .mk v k ps => by rw [samePr, samePrL_refl ps]; simp
theorem samePrL_refl : (l : List Pr) -> samePrL l l = true
 | [] => by rw [samePrL]
 | p :: r => by rw [samePrL, samePr_refl p, samePrL_refl r]; rfl
end
theorem samePrL_len : (l m : List Pr) -> samePrL l m = true -> l.length = m.length
 | [], [], _ => rfl
 | p :: r, q :: t, h => by
  rw [samePrL, Bool.and_eq_true] at h
  simp [samePrL_len r t h.2]
 | [], q :: t, h => by rw [samePrL] at h; cases h
 | p :: r, [], h => by rw [samePrL] at h; cases h
theorem samePrL_of : (l m : List Pr) -> l.length = m.length -> (∀ i (h1 : i < l.length) (h2 : i < m.length), samePr l[i] m[i] = true) -> samePrL l m = true
 | [], [], _, _ => by rw [samePrL]
 | p :: r, q :: t, h, h2 => by
  have h0 := h2 0 (by simp) (by simp)
  simp only [List.getElem_cons_zero] at h0
  rw [samePrL, h0, samePrL_of r t (by simpa using h) fun i g1 g2 => by have := h2 (i + 1) (by simpa using g1) (by simpa using g2); simpa using this]
  rfl
 | [], q :: t, h, _ => by simp at h
 | p :: r, [], h, _ => by simp at h
theorem samePrL_at : (l m : List Pr) -> samePrL l m = true -> ∀ i (h1 : i < l.length) (h2 : i < m.length), samePr l[i] m[i] = true
 | p :: r, q :: t, h, 0, _, _ => by
  rw [samePrL, Bool.and_eq_true] at h
  simpa using h.1
 | p :: r, q :: t, h, i + 1, g1, g2 => by
  rw [samePrL, Bool.and_eq_true] at h
  simpa using samePrL_at r t h.2 i (by simpa using g1) (by simpa using g2)
mutual
def Pr.size : Pr -> Nat
 | .mk _ _ ps => 1 + Pr.sizes ps
def Pr.sizes : List Pr -> Nat
 | [] => 0
 | p :: r => p.size + Pr.sizes r
end
theorem Pr.size_eq (p : Pr) : p.size = 1 + Pr.sizes p.args := by cases p; rw [Pr.size]; rfl
theorem Pr.size_mem : (l : List Pr) -> (k : Nat) -> (hk : k < l.length) -> l[k].size <= Pr.sizes l
 | [], k, hk => by simp at hk
 | p :: r, 0, _ => by simp [Pr.sizes]
 | p :: r, k + 1, hk => by
  have := Pr.size_mem r k (by simpa using hk)
  simp only [Pr.sizes, List.getElem_cons_succ]
  omega
def SamL (P Q : Pr) (b0 : Nat) (Z0 Z1 : Obj) (w : World) (n : Nat) (i : Value) (wr : World) : Prop := ∃ k : Nat, i = .int .i64 k /\ k <= n /\ (∀ j (h1 : j < P.args.length) (h2 : j < Q.args.length), j < k -> samePr P.args[j] Q.args[j] = true) /\ wr.heap[b0]? = some Z0 /\ wr.heap[b0 + 1]? = some Z1 /\ Ext w wr
theorem rsame_calls (m : Nat) : ∀ (p q : Pr) (pv qv : PrV) (w : World), p.size <= m -> p.fit -> IsPr w p pv -> IsPr w q qv -> Calls Tryz.prog 15 #[pv.val, qv.val] w (GivesE (.bool (samePr p q)) w) := by
 induction m with
 | zero => intro p q pv qv w h; have := p.size_eq; omega
 | succ m ih =>
  intro p q pv qv w hm hfit hp hq
  obtain ⟨p1, p2, p3, -, -, p6⟩ := hp.parts
  obtain ⟨q1, q2, q3, -, -, q6⟩ := hq.parts
  have hlen : p.args.length <= 1000000000000000 := by cases hfit; assumption
  have hfits : ∀ x ∈ p.args, x.fit := by cases hfit; assumption
  obtain ⟨R, hR⟩ : ∃ R, R = samePr p q := ⟨_, rfl⟩
  rw [<- hR]
  rw [samePr_eq] at hR
  have HC := hI (fun (j : Nat) (h1 : j < p.args.length) (h2 : j < q.args.length) (a b : PrV) (W : World) (ha : IsPr W p.args[j] a) (hb : IsPr W q.args[j] b) => ih p.args[j] q.args[j] a b W (by have := p.size_eq; have := Pr.size_mem p.args j h1; omega) (hfits _ (List.getElem_mem h1)) ha hb)
  obtain ⟨pb, pk, pa, pn, pc⟩ := pv
  obtain ⟨qb, qk, qa, qn, qc⟩ := qv
  simp only at p1 p2 p3 p6 q1 q2 q3 q6
  rw [<- p1, <- p2, <- q1, <- q2] at hR
  have HR := hI hR
  have HP3 := hI p3
  have HQ3 := hI q3
  have HP6 := hI p6
  have HQ6 := hI q6
  have hpn : pn <= 1000000000000000 := by omega
  clear hR p1 p2 p3 p6 q1 q2 q3 q6 hp hq hfit hfits hlen hm ih
  unfold PrV.val
  obtain ⟨wa, hwa⟩ : ∃ wa, wa = (w.alloc (.cells #[.bool pb, .int .i64 pk, .slice pa pn pc] 40)).alloc (.cells #[.bool qb, .int .i64 qk, .slice qa qn qc] 40) := ⟨_, rfl⟩
  have hxa : Ext w wa := by rw [hwa]; exact ((Ext.refl _).alloc _).alloc _
  have hb0 : wa.heap[w.heap.size]? = some (.cells #[.bool pb, .int .i64 pk, .slice pa pn pc] 40 (0, 0)) := by rw [hwa]; exact blk_alloc (alloc_new w _)
  have hb1 : wa.heap[w.heap.size + 1]? = some (.cells #[.bool qb, .int .i64 qk, .slice qa qn qc] 40 (0, 0)) := by rw [hwa]; exact alloc_atR (by simp)
  have HXA := hI hxa
  have HB0 := hI hb0
  have HB1 := hI hb1
  obtain ⟨e0, e1, e2, ef⟩ := blk3 hb0
  obtain ⟨f0, f1, f2, ff⟩ := blk3 hb1
  have hltw := blk_lt hb1
  clear hxa hb0 hb1
  by_cases h1 : pb = qb
  case neg =>
   have HQ := hI (show R = false by rw [HR.out]; simp [h1])
   have hb : (pb = false /\ qb = true) \/ (pb = true /\ qb = false) := by cases pb <;> cases qb <;> simp at h1 ⊢
   have HBB := hI hb
   clear h1 hb
   go_enter Tryz.func15, Tryz.ntmps15
   go_upto_region 1 with fail
   rw [<- hwa]
   clear hwa
   rcases HBB.out with ⟨rfl, rfl⟩ | ⟨rfl, rfl⟩
   all_goals
    go_wp2_with fail
    go_ret
    exact givesE_bool (by rw [HQ.out]) HXA.out
  subst h1
  by_cases h2 : pk = qk
  case neg =>
   have HQ := hI (show R = false by rw [HR.out]; simp [h2])
   have t1 : (pk != qk) = true := by simp [h2]
   clear h2
   go_enter Tryz.func15, Tryz.ntmps15
   go_upto_region 1 with fail
   rw [<- hwa]
   clear hwa
   go_wp2_with fail
   go_ret
   exact givesE_bool (by rw [HQ.out]) HXA.out
  subst h2
  by_cases h3 : pn = qn
  case neg =>
   have HQ := hI (show R = false by
    rw [HR.out]
    cases hz : samePrL p.args q.args
    ·simp
    have := samePrL_len _ _ hz
    have := HP3.out; have := HQ3.out; omega)
   have t1 : ((pn : Int) != (qn : Int)) = true := by simp; omega
   clear h3
   go_enter Tryz.func15, Tryz.ntmps15
   go_upto_region 1 with fail
   rw [<- hwa]
   clear hwa
   go_wp2_with fail
   go_ret
   exact givesE_bool (by rw [HQ.out]) HXA.out
  subst h3
  have HR2 := hI (show R = samePrL p.args q.args by rw [HR.out]; simp)
  go_enter Tryz.func15, Tryz.ntmps15
  go_upto_region 1 with fail
  rw [<- hwa]
  clear hwa
  go_wp2_with fail
  clear e0 e1 e2 ef f0 f1 f2 ff hltw
  go_loopw [5] (SamL p q w.heap.size (.cells #[.bool pb, .int .i64 pk, .slice pa pn pc] 40 (0, 0)) (.cells #[.bool pb, .int .i64 pk, .slice qa pn qc] 40 (0, 0)) w pn) (fun i _ => pn - (intOf i).toNat)
  case atStart => exact ⟨0, rfl, by omega, fun j _ _ h => by omega, HB0.out, HB1.out, HXA.out⟩
  case round =>
   obtain ⟨k, rfl, hk, hall, hb0, hb1, hxr⟩ := hrel
   have HALL := hI hall
   have HXR := hI hxr
   have HC0 := hI hb0
   have HC1 := hI hb1
   obtain ⟨e0, e1, e2, ef⟩ := blk3 hb0
   obtain ⟨f0, f1, f2, ff⟩ := blk3 hb1
   have hltw := blk_lt hb1
   clear hall hxr hb0 hb1
   by_cases hkn : k < pn
   ·have hkp : k < p.args.length := by have := HP3.out; omega
    have hkq : k < q.args.length := by have := HQ3.out; omega
    have t1 : decide ((k : Int) < (pn : Int)) = true := decide_eq_true (by omega)
    obtain ⟨b, off, x, rfl, hx, c0, c1, c2⟩ := HP6.out k hkp
    obtain ⟨b', off', y, rfl, hy, d0, d1, d2⟩ := HQ6.out k hkq
    replace c0 := HXR.out.cell c0
    replace c1 := HXR.out.cell c1
    replace c2 := HXR.out.cell c2
    replace d0 := HXR.out.cell d0
    replace d1 := HXR.out.cell d1
    replace d2 := HXR.out.cell d2
    have HCC := hI (fun W (hW : Ext w W) => HC.out k hkp hkq x y W (hx.ext hW) (hy.ext hW))
    obtain ⟨B, hB⟩ : ∃ B, B = samePr p.args[k] q.args[k] := ⟨_, rfl⟩
    rw [<- hB] at HCC
    have HBB := hI hB
    obtain ⟨xb, xk, xa, xn, xc⟩ := x
    obtain ⟨yb, yk, ya, yn, yc⟩ := y
    unfold PrV.val at HCC
    simp only at c0 c1 c2 d0 d1 d2 HCC
    clear hB hx hy
    go_wp2_with fail
    go_still_tail 10, (by kernel_rfl)
    change wpList _ _ _ _ _ wr.drew
    have hx2 : Ext wr wr.drew := (Ext.refl wr).drew
    generalize wr.drew = w2 at hx2 ⊢
    have HX2 := hI (HXR.out.trans hx2)
    have HD0 := hI (hx2.blk HC0.out)
    have HD1 := hI (hx2.blk HC1.out)
    clear hx2 e0 e1 e2 ef f0 f1 f2 ff c0 c1 c2 d0 d1 d2 hltw
    go_wp2_with fail
    refine (HCC.out w2 HX2.out).mono ?_
    rintro r w3 ⟨rfl, hx3⟩
    have HX3 := hI (HX2.out.trans hx3)
    have HE0 := hI (hx3.blk HD0.out)
    have HE1 := hI (hx3.blk HD1.out)
    clear hx3
    cases B
    ·have HQ := hI (show R = false by
      rw [HR2.out]
      cases hz : samePrL p.args q.args
      ·rfl
      have := samePrL_at _ _ hz k hkp hkq
      rw [<- HBB.out] at this; cases this)
     go_wp2_with fail
     go_ret
     exact givesE_bool (by rw [HQ.out]) HX3.out
    go_wp2_with fail
    go_roundw
    case rel =>
     refine ⟨k + 1, by go_num, by omega, fun j h1 h2 hjk => ?_, HE0.out, HE1.out, HX3.out⟩
     by_cases e : j = k
     ·subst e; exact HBB.out.symm
     exact HALL.out j h1 h2 (by omega)
    case measure => simp [intOf]; omega
   have t1 : decide ((k : Int) < (pn : Int)) = false := decide_eq_false (by omega)
   have HF := hI (show R = true by
    rw [HR2.out]
    exact samePrL_of _ _ (by have := HP3.out; have := HQ3.out; omega) fun i h1 h2 => HALL.out i h1 h2 (by have := HP3.out; omega))
   go_wp2_with fail
   go_ret
   exact givesE_bool (by rw [HF.out]) HXR.out
end Go.Proofs.YtpkljcgihobaiaaGreatDoor
