/-
  Texts of the claim, joined: RPts, RWEr, SetRow.
-/
import Derived.Test.YtpkljcgihobaiaaGreatEf13
namespace Go.Proofs.YtpkljcgihobaiaaGreat
set_option maxRecDepth 100000
set_option maxHeartbeats 32000000
open Go.RowKit
theorem addPt_len (l : ZI) (x : Int) : (addPt l x).length <= l.length + 1 := by
 induction l with
 | nil => simp [addPt]
 | cons y r ih =>
  unfold addPt
  by_cases h1 : x < y
  ·rw [if_pos h1]; simp
  rw [if_neg h1]
  by_cases h2 : x = y
  ·rw [if_pos h2]; simp
  rw [if_neg h2]; simp; omega
theorem isIntF_extG {w w' : World} {f : ZI} {a : OA} {n : Nat} (h : IsIntF w f a n) (hx : Ext w w') : IsIntF w' f a n := h.mono hx.sub
theorem isIntF_one {w : World} {b : Nat} {z : Int} {t : TypeId} (h : w.heap[b]? = some (.cells #[.int .i64 z] t (0, 0))) : IsIntF w [z] (some ⟨b, 0, none⟩) 1 := by
 refine ⟨rfl, fun i hi => ⟨b, 0, rfl, ?_⟩⟩
 obtain rfl : i = 0 := by simp at hi; exact hi
 exact (blk1 h).1
def pt8R (la : OA) (lc : Nat) (L : ZI) (fr tt : Int) (wo : World) : Nat -> Value -> World -> Prop
 | 0, u, _ => u = .slice la L.length lc
 | 1, u, _ => u = .pointer (some ⟨wo.heap.size, 0, none⟩)
 | 2, u, _ => u = .int .i64 fr
 | 3, u, W => ∃ (p3 : OA) (q3 : Nat), u = .slice p3 (addPt L fr).length q3 /\ IsIntF W (addPt L fr) p3 (addPt L fr).length
 | 4, u, _ => u = .pointer (some ⟨wo.heap.size, 1, none⟩)
 | 5, u, _ => u = .int .i64 tt
 | _, u, W => ∃ (p7 : OA) (q7 : Nat), u = .slice p7 (addPt (addPt L fr) tt).length q7 /\ IsIntF W (addPt (addPt L fr) tt) p7 (addPt (addPt L fr) tt).length
theorem rPoints_calls (x : Wrd) (v : Value) (w : World) (hw : IsWrd w x v) (hfit : x.fit) : Calls Tryz.prog 100 #[v] w (IntsQ (points x) w) := by
 have HWV := hI (fun W (hW : Ext w W) => rWording_calls x v W (hw.ext hW) hfit)
 obtain ⟨ca, cn, cc, ea, en, ec, rfl, hcl, hed⟩ := hw
 have HE := hI hed
 have HEN := hI hed.len
 clear hcl hed hfit
 obtain ⟨R, hR⟩ : ∃ R, R = points x := ⟨_, rfl⟩
 rw [<- hR]
 have HR := hI (show R = if wordingB x = false then [] else pointsGo [0] x.ends from hR)
 clear hR
 obtain ⟨wa, hwa⟩ : ∃ wa, wa = w.alloc (.cells #[.slice ca cn cc, .slice ea en ec] 37) := ⟨_, rfl⟩
 have HXA := hI (show Ext w wa by rw [hwa]; exact (Ext.refl _).alloc _)
 have HBA := hI (show wa.heap[w.heap.size]? = some (.cells #[.slice ca cn cc, .slice ea en ec] 37 (0, 0)) by rw [hwa]; exact alloc_new w _)
 obtain ⟨c0, c1, cf⟩ := blk2 HBA.out
 go_enter Tryz.func100, Tryz.ntmps100
 go_upto_region 1 with fail
 rw [<- hwa]
 clear hwa
 go_wp2_with fail
 refine (HWV.out wa HXA.out).mono ?_
 rintro r w1 ⟨rfl, hx1⟩
 have HX1 := hI (HXA.out.trans hx1)
 have HB1 := hI (hx1.blk HBA.out)
 clear hx1 c0 c1 cf HWV
 cases hwb : wordingB x
 ·have HF := hI (show R = [] by rw [HR.out, if_pos hwb])
  clear hwb
  go_wp2_with fail
  go_ret
  refine ⟨none, 0, by rw [HF.out]; rfl, ?_, HX1.out⟩
  rw [HF.out]
  exact ⟨rfl, fun i hi => by simp at hi⟩
 have HR2 := hI (show pointsGo [0] x.ends = R by rw [HR.out, if_neg (by simp [hwb])])
 have hen : en <= 12 := by
  unfold wordingB at hwb
  simp only [Bool.and_eq_true, decide_eq_true_eq] at hwb
  have := HEN.out
  omega
 clear hwb HR
 go_wp2_with fail
 generalize hwn : World.alloc _ _ = wn
 have hxn : Ext w1 wn := by rw [<- hwn]; exact (Ext.refl _).alloc _
 have hbn : wn.heap[w1.heap.size]? = some (.cells #[.int .i64 0] 3 (0, 0)) := by rw [<- hwn]; exact alloc_new w1 _
 have HXN := hI (HX1.out.trans hxn)
 have HBN := hI (hxn.blk HB1.out)
 have HIN := hI (isIntF_one hbn)
 clear hwn hxn hbn
 go_loopw [3, 4] (fun s t wr => ∃ (k : Nat) (L : ZI) (a : OA) (c : Nat), s = .slice a L.length c /\ t = .int .i64 k /\ k <= en /\ L.length <= 1 + 2 * k /\ pointsGo L (x.ends.drop k) = R /\ IsIntF wr L a L.length /\ wr.heap[w.heap.size]? = some (.cells #[.slice ca cn cc, .slice ea en ec] 37 (0, 0)) /\ Ext w wr) (fun _ t _ => en - (intOf t).toNat)
 case atStart => exact ⟨0, [0], _, 1, rfl, rfl, Nat.zero_le _, by simp, HR2.out, HIN.out, HBN.out, HXN.out⟩
 case round =>
  obtain ⟨k, L, la, lc, rfl, rfl, hk, hll, hgo, hil, hbx, hxr⟩ := hrel
  obtain ⟨wo, rfl⟩ : ∃ wo : World, wo = wr := ⟨_, rfl⟩
  obtain ⟨ln, hln⟩ : ∃ ln, ln = L.length := ⟨_, rfl⟩
  rw [<- hln] at hil hll ⊢
  have HLN := hI hln
  have HGO := hI hgo
  have HIL := hI hil
  have HBX := hI hbx
  have HXR := hI hxr
  obtain ⟨b0, b1, bf⟩ := blk2 hbx
  clear hln hgo hil hbx hxr
  by_cases hkn : k < en
  ·have hkl : k < x.ends.length := by have := HEN.out; omega
   have t1 : decide ((k : Int) < (en : Int)) = true := decide_eq_true (by omega)
   obtain ⟨b, off, v, rfl, hvx, hedm, e0, e1, e2, e3⟩ := (HE.out.ext HXR.out).at hkl
   have HGO2 := hI (show pointsGo (addPt (addPt L v.x.frm) v.x.upto) (x.ends.drop (k + 1)) = R by have := HGO.out; rw [dropAt hkl, <- hvx] at this; exact this)
   obtain ⟨fr, hfr⟩ : ∃ fr, fr = v.x.frm := ⟨_, rfl⟩
   obtain ⟨tt, htt⟩ : ∃ tt, tt = v.x.upto := ⟨_, rfl⟩
   rw [<- hfr, <- htt] at HGO2
   rw [<- hfr] at e0
   rw [<- htt] at e1
   clear hvx hedm e2 e3 hfr htt
   obtain ⟨wb, hwb⟩ : ∃ wb, wb = wo.alloc (.cells #[.int .i64 fr, .int .i64 tt] 113) := ⟨_, rfl⟩
   have HXB := hI (show Ext wo wb by rw [hwb]; exact (Ext.refl _).alloc _)
   have HBB := hI (show wb.heap[wo.heap.size]? = some (.cells #[.int .i64 fr, .int .i64 tt] 113 (0, 0)) by rw [hwb]; exact alloc_new wo _)
   have HBX2 := hI (HXB.out.blk HBX.out)
   have HILB := hI (isIntF_extG HIL.out HXB.out)
   have hle1 := addPt_len L fr
   have hle2 := addPt_len (addPt L fr) tt
   have HA1 := hI (fun (a : OA) (c : Nat) W (h : IsIntF W L a L.length) => radd_calls L a L.length c fr W h (by have := HLN.out; omega))
   have HA2 := hI (fun (a : OA) (c : Nat) W (h : IsIntF W (addPt L fr) a (addPt L fr).length) => radd_calls (addPt L fr) a (addPt L fr).length c tt W h (by have := HLN.out; omega))
   have HL2 := hI (show (addPt (addPt L fr) tt).length <= 1 + 2 * (k + 1) by have := HLN.out; omega)
   rw [HLN.out] at HILB ⊢
   clear hle1 hle2 hll
   go_upto_region 8 with fail
   rw [<- hwb]
   clear hwb b0 b1 bf e0 e1
   obtain ⟨d0, d1, df⟩ := blk2 HBB.out
   have hltb := blk_lt HBB.out
   go_upto_region 8 with fail
   refine wp_region_grow (m := 7) [6] (GrG wb) GrE (GrP (pt8R la lc L fr tt wo)) (by kernel_rfl) (by kernel_rfl) ((Ext.refl wb).drew) ?_ ?_ ?_
   ·intro i k v W W' hi hk hne hout h hE
    have hE : Ext W W' := hE
    have hi' := ltc7 hi
    clear hi hk hne hout
    rcases hi' with rfl | rfl | rfl | rfl | rfl | rfl | rfl
    ·exact h
    ·exact h
    ·exact h
    ·obtain ⟨p3, q3, e0, h⟩ := h
     exact ⟨p3, q3, e0, isIntF_extG h hE⟩
    ·exact h
    ·exact h
    obtain ⟨p7, q7, e0, h⟩ := h
    exact ⟨p7, q7, e0, isIntF_extG h hE⟩
   ·intro q op hq ho vs W hW hd ρ hρ
    have hq' := ltc7 hq
    clear hq
    have o3 : ρ (.tmp 3) = .slice la L.length lc := hρ.out 3 rfl
    have o5 : ρ (.tmp 5) = .pointer (some ⟨wo.heap.size, 0, none⟩) := hρ.out 5 rfl
    have i1 := hρ.i 1 24
    have i0 := hρ.i 0 23
    have i2 := hρ.i 2 25
    have i4 := hρ.i 4 27
    have i3 := hρ.i 3 26
    have i5 := hρ.i 5 28
    have hc := hρ.const
    have hfn := hρ.func
    clear hρ
    have HW := hI (show Ext wb W from hW)
    rcases hq' with rfl | rfl | rfl | rfl | rfl | rfl | rfl
    ·cases ho
     clear hd
     unfold GivesOp
     go_simp
     exact ⟨Ext.refl W, rfl⟩
    ·cases ho
     clear hd
     unfold GivesOp
     go_simp
     exact ⟨Ext.refl W, rfl⟩
    ·cases ho
     have h1 : vs 1 = _ := hd ⟨1, .data⟩ (by simp) rfl
     rw [h1] at i1
     clear hd
     have g2 := HW.out.cell d0
     unfold GivesOp
     go_simp
     exact ⟨Ext.refl W, rfl⟩
    ·cases ho
     have h0 : vs 0 = _ := hd ⟨0, .data⟩ (by simp) rfl
     rw [h0] at i0
     have h2 : vs 2 = _ := hd ⟨2, .data⟩ (by simp) rfl
     rw [h2] at i2
     clear hd
     unfold GivesOp
     go_simp
     refine (HA1.out la lc W (isIntF_extG HILB.out HW.out)).mono ?_
     rintro r w5 ⟨p3, q3, rfl, hi5, hx5⟩
     exact ⟨_, rfl, hx5, HW.out.trans hx5, p3, q3, rfl, hi5⟩
    ·cases ho
     clear hd
     unfold GivesOp
     go_simp
     exact ⟨Ext.refl W, rfl⟩
    ·cases ho
     have h4 : vs 4 = _ := hd ⟨4, .data⟩ (by simp) rfl
     rw [h4] at i4
     clear hd
     have g5 := HW.out.cell d1
     unfold GivesOp
     go_simp
     exact ⟨Ext.refl W, rfl⟩
    cases ho
    obtain ⟨p3, q3, h3, hs3⟩ : ∃ (p3 : OA) (q3 : Nat), vs 3 = .slice p3 (addPt L fr).length q3 /\ IsIntF W (addPt L fr) p3 (addPt L fr).length := hd ⟨3, .data⟩ (by simp) rfl
    have HS3 := hI hs3
    clear hs3
    rw [h3] at i3
    have h5 : vs 5 = _ := hd ⟨5, .data⟩ (by simp) rfl
    rw [h5] at i5
    clear hd
    unfold GivesOp
    go_simp
    refine (HA2.out p3 q3 W HS3.out).mono ?_
    rintro r w5 ⟨p7, q7, rfl, hi5, hx5⟩
    exact ⟨_, rfl, hx5, HW.out.trans hx5, p7, q7, rfl, hi5⟩
   intro vs W hW hR
   rw [if_neg (by decide +kernel)]
   obtain ⟨p7, q7, h6, hs6⟩ : ∃ (p7 : OA) (q7 : Nat), vs 6 = .slice p7 (addPt (addPt L fr) tt).length q7 /\ IsIntF W (addPt (addPt L fr) tt) p7 (addPt (addPt L fr) tt).length := hR 6 (by simp) (by omega)
   have HS6 := hI hs6
   clear hs6
   refine wpOp_lastG rfl ?_
   change wpList _ _ _ [⟨some 3, .assign (.tmp 29), _, _, _, none⟩] _ _
   simp only [acts, dstAt, List.range, List.range.loop, List.foldl_cons, List.foldl_nil, h6]
   go_simp
   have hW2 : Ext wb W := hW
   clear hR hW h6
   have HW2 := hI hW2
   clear hW2
   go_wp2_with fail
   go_roundw
   case rel => exact ⟨k + 1, _, p7, q7, rfl, by go_num, by omega, HL2.out, HGO2.out, HS6.out, HW2.out.blk HBX2.out, (HXR.out.trans HXB.out).trans HW2.out⟩
   case measure => simp [intOf]; omega
  have t1 : decide ((k : Int) < (en : Int)) = false := decide_eq_false (by omega)
  have HQ := hI (show L = R by
   have := HGO.out
   rw [List.drop_eq_nil_of_le (by have := HEN.out; omega)] at this
   exact this)
  rw [HLN.out] at HIL ⊢
  go_wp2_with fail
  go_ret
  refine ⟨la, lc, by rw [<- HQ.out]; rfl, ?_, HXR.out⟩
  rw [<- HQ.out]
  exact HIL.out
theorem addAll_mem : (r l m : List Cla) -> addAll l r = some m -> ∀ c ∈ m, c ∈ l \/ c ∈ r
 | [], l, m, h, c, hc => by rw [addAll] at h; cases h; exact Or.inl hc
 | d :: r, l, m, h, c, hc => by
  rw [addAll] at h
  by_cases hn : hasName l d.name = true
  ·rw [if_pos hn] at h; cases h
  rw [if_neg hn] at h
  rcases addAll_mem r _ m h c hc with q | q
  ·rcases List.mem_append.1 q with q | q
   ·exact Or.inl q
   exact Or.inr (by simp at q; simp [q])
  exact Or.inr (by simp [q])
theorem step_mem {h : Int} {l : List Cla} {x : Edm} : (∀ c ∈ (edmStep h l x).1, c ∈ l \/ c ∈ x.clauses) /\ ((edmStep h l x).1.length <= l.length \/ (edmStep h l x).1.length <= 100) := by
 unfold edmStep
 by_cases h1 : containsB x.frm x.upto h = false
 ·rw [if_pos h1]; exact ⟨fun c hc => Or.inl hc, Or.inl (Nat.le_refl _)⟩
 rw [if_neg h1]
 by_cases h2 : x.remove.all (hasName l) = false
 ·rw [if_pos h2]; exact ⟨fun c hc => by simp at hc, Or.inl (by simp)⟩
 rw [if_neg h2]
 cases ha : addAll (keptOf x.remove l) x.clauses with
 | none => exact ⟨fun c hc => by simp [stepRes] at hc, Or.inl (by simp [stepRes])⟩
 | some m =>
  unfold stepRes
  by_cases h3 : 100 < m.length
  ·simp only [if_pos h3]; exact ⟨fun c hc => by simp at hc, Or.inl (by simp)⟩
  simp only [if_neg h3]
  refine ⟨fun c hc => ?_, Or.inr (by omega)⟩
  rcases addAll_mem _ _ _ ha c hc with q | q
  ·exact Or.inl (List.mem_filter.1 q).1
  exact Or.inr q
theorem force_mem (h : Int) : (r : List Edm) -> (l : List Cla) -> (∀ c ∈ (forceGo h l r).1, c ∈ l \/ ∃ x ∈ r, c ∈ x.clauses) /\ ((forceGo h l r).1.length <= l.length \/ (forceGo h l r).1.length <= 100)
 | [], l => ⟨fun c hc => Or.inl hc, Or.inl (Nat.le_refl _)⟩
 | x :: r, l => by
  rw [forceGo]
  by_cases h1 : (edmStep h l x).2 ≠ 0
  ·rw [if_pos h1]; exact ⟨fun c hc => by simp at hc, Or.inl (by simp)⟩
  rw [if_neg h1]
  obtain ⟨a1, a2⟩ := force_mem h r (edmStep h l x).1
  obtain ⟨b1, b2⟩ := step_mem (h := h) (l := l) (x := x)
  refine ⟨fun c hc => ?_, by omega⟩
  rcases a1 c hc with q | ⟨y, hy, q⟩
  ·rcases b1 c q with q | q
   ·exact Or.inl q
   exact Or.inr ⟨x, by simp, q⟩
  exact Or.inr ⟨y, by simp [hy], q⟩
theorem inForce_fit {x : Wrd} (hf : x.fit) (h : Int) : fitClas (inForce x h).1 := by
 unfold inForce
 by_cases h1 : wordingB x = false
 ·rw [if_pos h1]; exact ⟨by simp, fun c hc => by simp at hc⟩
 rw [if_neg h1]
 by_cases h2 : hoursB h = false
 ·rw [if_pos h2]; exact ⟨by simp, fun c hc => by simp at hc⟩
 rw [if_neg h2]
 cases ha : addAll [] x.clauses with
 | none => exact ⟨by simp [startRes], fun c hc => by simp [startRes] at hc⟩
 | some l =>
  have hl := addAll_len _ _ _ ha
  have hm := addAll_mem _ _ _ ha
  obtain ⟨a1, a2⟩ := force_mem h x.ends l
  show fitClas (forceGo h l x.ends).1
  refine ⟨by have := hf.1.1; simp at hl; omega, fun c hc => ?_⟩
  rcases a1 c hc with q | ⟨y, hy, q⟩
  ·rcases hm c q with q | q
   ·simp at q
   exact hf.1.2 c q
  exact (hf.2.2 y hy).2.2.2 c q
theorem pointsGo_len : (r : List Edm) -> (l : ZI) -> (pointsGo l r).length <= l.length + 2 * r.length
 | [], l => by simp [pointsGo]
 | x :: r, l => by
  rw [pointsGo]
  have h1 := addPt_len l x.frm
  have h2 := addPt_len (addPt l x.frm) x.upto
  have h3 := pointsGo_len r (addPt (addPt l x.frm) x.upto)
  simp; omega
theorem points_len (x : Wrd) : (points x).length <= 100 := by
 unfold points
 by_cases h : wordingB x = false
 ·rw [if_pos h]; simp
 rw [if_neg h]
 have := pointsGo_len x.ends [0]
 have h12 : x.ends.length <= 12 := by
  unfold wordingB at h
  simp only [Bool.not_eq_false, Bool.and_eq_true, decide_eq_true_eq] at h
  exact h.1.1
 simp at this; omega
def WErQ (w : World) (e : Ending) (w' : World) : Prop := ∃ a b c : Int, e = .returned (.tuple #[.int .i64 a, .int .i64 b, .int .i64 c]) /\ Ext w w'
def we7R (b off pn pc k : Nat) (pt : Int) (ca ea : OA) (cn cc en ec : Nat) (F : List Cla × Int) : Nat -> Value -> World -> Prop
 | 0, u, _ => u = .agg #[.slice ca cn cc, .slice ea en ec]
 | 1, u, _ => u = .slice (some ⟨b, off, none⟩) pn pc
 | 2, u, _ => u = .int .i64 k
 | 3, u, _ => u = .pointer (some ⟨b, off + k, none⟩)
 | 4, u, _ => u = .int .i64 pt
 | 5, u, W => ∃ (fa : OA) (fc : Nat), u = .tuple #[.slice fa F.1.length fc, .int .i64 F.2] /\ IsClas W F.1 fa F.1.length fc
 | 6, u, W => ∃ (fa : OA) (fc : Nat), u = .tuple #[.slice fa F.1.length fc, .int .i64 F.2] /\ IsClas W F.1 fa F.1.length fc
 | 7, u, W => ∃ (fa : OA) (fc : Nat), u = .slice fa F.1.length fc /\ IsClas W F.1 fa F.1.length fc
 | 8, u, _ => u = .int .i64 F.2
 | 9, u, W => ∃ (fa : OA) (fc : Nat), u = .slice fa F.1.length fc /\ IsClas W F.1 fa F.1.length fc
 | _, u, _ => u = .int .i64 F.2
theorem rWErr_calls (s : List Attr) (sv : Value) (x : Wrd) (v : Value) (w : World) (hs : IsSchema w s sv) (hf : ∀ x ∈ s, x.fits) (hsl : s.length <= 1000000000000000) (hw : IsWrd w x v) (hfit : x.fit) :
  Calls Tryz.prog 58 #[sv, v] w (WErQ w) := by
 obtain ⟨sa, sn, sc, rfl, hsn⟩ := hs.slice
 have HWV := hI (fun W (hW : Ext w W) => rWording_calls x v W (hw.ext hW) hfit)
 have HPT := hI (fun W (hW : Ext w W) => rPoints_calls x v W (hw.ext hW) hfit)
 have HIF := hI (fun h W (hW : Ext w W) => rInForce_calls x v h W (hw.ext hW) hfit)
 have HCL := hI (fun (l : List Cla) a c W (hW : Ext w W) (hl : IsClas W l a l.length c) (hfl : fitClas l) => rClauses_calls s l (.agg #[.slice sa sn sc]) a l.length c W (hs.ext hW) hf hsl hl hfl.1 hfl.2)
 have HFI := hI (fun h => inForce_fit hfit h)
 obtain ⟨ca, cn, cc, ea, en, ec, rfl, hcl, hed⟩ := hw
 clear hs hf hsl hcl hed hfit hsn
 obtain ⟨wa, hwa⟩ : ∃ wa, wa = (w.alloc (.cells #[.slice sa sn sc] 24)).alloc (.cells #[.slice ca cn cc, .slice ea en ec] 37) := ⟨_, rfl⟩
 have HXA := hI (show Ext w wa by rw [hwa]; exact ((Ext.refl _).alloc _).alloc _)
 have HSA := hI (show wa.heap[w.heap.size]? = some (.cells #[.slice sa sn sc] 24 (0, 0)) by rw [hwa]; exact blk_alloc (alloc_new w _))
 have HBA := hI (show wa.heap[w.heap.size + 1]? = some (.cells #[.slice ca cn cc, .slice ea en ec] 37 (0, 0)) by
  rw [hwa]; have := alloc_new (w.alloc (.cells #[.slice sa sn sc] 24)) (.cells #[.slice ca cn cc, .slice ea en ec] 37); rwa [World.size_alloc] at this)
 obtain ⟨s0, sf⟩ := blk1 HSA.out
 obtain ⟨c0, c1, cf⟩ := blk2 HBA.out
 go_enter Tryz.func58, Tryz.ntmps58
 go_upto_region 1 with fail
 rw [<- hwa]
 clear hwa
 go_wp2_with fail
 refine (HWV.out wa HXA.out).mono ?_
 rintro r w1 ⟨rfl, hx1⟩
 have HX1 := hI (HXA.out.trans hx1)
 have HS1 := hI (hx1.blk HSA.out)
 have HB1 := hI (hx1.blk HBA.out)
 clear hx1 c0 c1 cf s0 sf HWV HXA HSA HBA
 obtain ⟨s0, sf⟩ := blk1 HS1.out
 obtain ⟨c0, c1, cf⟩ := blk2 HB1.out
 cases hwb : wordingB x
 ·go_wp2_with fail
  refine bodyPost_ret (v := .tuple #[.int .i64 0, .int .i64 0, .int .i64 5]) (by simp [results, Tryz.results58, go_sem]) rfl ?_
  exact ⟨0, 0, 5, rfl, HX1.out⟩
 clear hwb
 go_wp2_with fail
 refine (HPT.out w1 HX1.out).mono ?_
 rintro r w2 ⟨pa, pc, rfl, hpi, hx2⟩
 obtain ⟨pts, hpts⟩ : ∃ pts, pts = points x := ⟨_, rfl⟩
 have hpl := points_len x
 rw [<- hpts] at hpi hpl ⊢
 obtain ⟨pn, hpn⟩ : ∃ pn, pn = pts.length := ⟨_, rfl⟩
 rw [<- hpn] at hpi hpl ⊢
 have HPI := hI hpi
 have HPN := hI hpn
 have HX2 := hI (HX1.out.trans hx2)
 have HS2 := hI (hx2.blk HS1.out)
 have HB2 := hI (hx2.blk HB1.out)
 clear hx2 hpi hpn hpts c0 c1 cf s0 sf HS1 HB1 HX1 HPT
 go_wp2_with fail
 go_loopw [8] (fun t wr => ∃ k : Nat, t = .int .i64 k /\ k <= pn /\ wr.heap[w.heap.size]? = some (.cells #[.slice sa sn sc] 24 (0, 0)) /\ wr.heap[w.heap.size + 1]? = some (.cells #[.slice ca cn cc, .slice ea en ec] 37 (0, 0)) /\ Ext w2 wr) (fun t _ => pn - (intOf t).toNat)
 case atStart => exact ⟨0, rfl, Nat.zero_le _, HS2.out, HB2.out, Ext.refl _⟩
 case round =>
  obtain ⟨k, rfl, hk, hsx, hbx, hxr⟩ := hrel
  obtain ⟨wo, rfl⟩ : ∃ wo : World, wo = wr := ⟨_, rfl⟩
  have HSX := hI hsx
  have HBX := hI hbx
  have HXR := hI hxr
  obtain ⟨s0, sf⟩ := blk1 hsx
  obtain ⟨c0, c1, cf⟩ := blk2 hbx
  clear hsx hbx hxr
  by_cases hkn : k < pn
  case neg =>
   have t1 : decide ((k : Int) < (pn : Int)) = false := decide_eq_false (by omega)
   go_wp2_with fail
   refine bodyPost_ret (v := .tuple #[.int .i64 0, .int .i64 0, .int .i64 0]) (by simp [results, Tryz.results58, go_sem]) rfl ?_
   exact ⟨0, 0, 0, rfl, HX2.out.trans HXR.out⟩
  have hkl : k < pts.length := by have := HPN.out; omega
  have t1 : decide ((k : Int) < (pn : Int)) = true := decide_eq_true (by omega)
  obtain ⟨b, off, rfl, hpc⟩ := HPI.out.2 k hkl
  obtain ⟨pt, hpt⟩ : ∃ pt, pt = pts[k] := ⟨_, rfl⟩
  rw [<- hpt] at hpc
  have HPC := hI (fun W (hW : Ext w2 W) => hW.cell hpc)
  have c2 := HPC.out wo HXR.out
  obtain ⟨F, hF⟩ : ∃ F, F = inForce x pt := ⟨_, rfl⟩
  have HIP := hI (fun W (hW : Ext w W) => HIF.out pt W hW)
  have HFT := hI (HFI.out pt)
  rw [<- hF] at HIP HFT
  have HXW := hI (HX2.out.trans HXR.out)
  clear hpc hpt hF
  go_upto_region 7 with fail
  refine wp_region_grow (m := 11) [9, 10] (GrG wo) GrE (GrP (we7R b off pn pc k pt ca ea cn cc en ec F)) (by kernel_rfl) (by kernel_rfl) ((Ext.refl wo).drew) ?_ ?_ ?_
  ·intro i k v W W' hi hk hne hout h hE
   have hE : Ext W W' := hE
   have hi' := ltc11 hi
   clear hi hk hne hout
   rcases hi' with rfl | rfl | rfl | rfl | rfl | rfl | rfl | rfl | rfl | rfl | rfl
   ·exact h
   ·exact h
   ·exact h
   ·exact h
   ·exact h
   ·obtain ⟨fa, fc, e0, h⟩ := h
    exact ⟨fa, fc, e0, h.ext hE⟩
   ·obtain ⟨fa, fc, e0, h⟩ := h
    exact ⟨fa, fc, e0, h.ext hE⟩
   ·obtain ⟨fa, fc, e0, h⟩ := h
    exact ⟨fa, fc, e0, h.ext hE⟩
   ·exact h
   ·obtain ⟨fa, fc, e0, h⟩ := h
    exact ⟨fa, fc, e0, h.ext hE⟩
   exact h
  ·intro q op hq ho vs W hW hd ρ hρ
   have hq' := ltc11 hq
   clear hq
   have o3 : ρ (.tmp 3) = .pointer (some ⟨w.heap.size + 1, 0, none⟩) := hρ.out 3 rfl
   have o7 : ρ (.tmp 7) = .slice (some ⟨b, off, none⟩) pn pc := hρ.out 7 rfl
   have o8 : ρ (.tmp 8) = .int .i64 k := hρ.out 8 rfl
   have i1 := hρ.i 1 26
   have i2 := hρ.i 2 27
   have i3 := hρ.i 3 28
   have i0 := hρ.i 0 25
   have i4 := hρ.i 4 29
   have i5 := hρ.i 5 30
   have i6 := hρ.i 6 24
   have i7 := hρ.i 7 31
   have i8 := hρ.i 8 32
   have hc := hρ.const
   have hfn := hρ.func
   clear hρ
   have HW := hI (show Ext wo W from hW)
   rcases hq' with rfl | rfl | rfl | rfl | rfl | rfl | rfl | rfl | rfl | rfl | rfl
   ·cases ho
    clear hd
    have g0 := HW.out.cell c0
    have g1 := HW.out.cell c1
    unfold GivesOp
    go_simp
    exact ⟨Ext.refl W, rfl⟩
   ·cases ho
    clear hd
    unfold GivesOp
    go_simp
    exact ⟨Ext.refl W, rfl⟩
   ·cases ho
    clear hd
    unfold GivesOp
    go_simp
    exact ⟨Ext.refl W, rfl⟩
   ·cases ho
    have h1 : vs 1 = _ := hd ⟨1, .data⟩ (by simp) rfl
    rw [h1] at i1
    have h2 : vs 2 = _ := hd ⟨2, .data⟩ (by simp) rfl
    rw [h2] at i2
    clear hd
    unfold GivesOp
    go_simp
    exact ⟨Ext.refl W, rfl⟩
   ·cases ho
    have h3 : vs 3 = _ := hd ⟨3, .data⟩ (by simp) rfl
    rw [h3] at i3
    clear hd
    have g4 := HW.out.cell c2
    unfold GivesOp
    go_simp
    exact ⟨Ext.refl W, rfl⟩
   ·cases ho
    have h0 : vs 0 = _ := hd ⟨0, .data⟩ (by simp) rfl
    rw [h0] at i0
    have h4 : vs 4 = _ := hd ⟨4, .data⟩ (by simp) rfl
    rw [h4] at i4
    clear hd
    unfold GivesOp
    go_simp
    refine (HIP.out W (HXW.out.trans HW.out)).mono ?_
    rintro r w5 ⟨fa, fc, rfl, hi5, hx5⟩
    exact ⟨_, rfl, hx5, HW.out.trans hx5, fa, fc, rfl, hi5⟩
   ·cases ho
    obtain ⟨fa, fc, h5, hs5⟩ : ∃ (fa : OA) (fc : Nat), vs 5 = .tuple #[.slice fa F.1.length fc, .int .i64 F.2] /\ IsClas W F.1 fa F.1.length fc := hd ⟨5, .data⟩ (by simp) rfl
    have HS5 := hI hs5
    clear hs5
    rw [h5] at i5
    clear hd
    unfold GivesOp
    go_simp
    exact ⟨Ext.refl W, _, _, rfl, HS5.out⟩
   ·cases ho
    obtain ⟨fa, fc, h6, hs6⟩ : ∃ (fa : OA) (fc : Nat), vs 6 = .tuple #[.slice fa F.1.length fc, .int .i64 F.2] /\ IsClas W F.1 fa F.1.length fc := hd ⟨6, .data⟩ (by simp) rfl
    have HS6 := hI hs6
    clear hs6
    rw [h6] at i6
    clear hd
    unfold GivesOp
    go_simp
    exact ⟨Ext.refl W, fa, fc, rfl, HS6.out⟩
   ·cases ho
    obtain ⟨fa, fc, h6, hs6⟩ : ∃ (fa : OA) (fc : Nat), vs 6 = .tuple #[.slice fa F.1.length fc, .int .i64 F.2] /\ IsClas W F.1 fa F.1.length fc := hd ⟨6, .data⟩ (by simp) rfl
    have HS6 := hI hs6
    clear hs6
    rw [h6] at i6
    clear hd
    unfold GivesOp
    go_simp
    exact ⟨Ext.refl W, rfl⟩
   ·cases ho
    obtain ⟨fa, fc, h7, hs7⟩ : ∃ (fa : OA) (fc : Nat), vs 7 = .slice fa F.1.length fc /\ IsClas W F.1 fa F.1.length fc := hd ⟨7, .data⟩ (by simp) rfl
    have HS7 := hI hs7
    clear hs7
    rw [h7] at i7
    clear hd
    unfold GivesOp
    go_simp
    exact ⟨Ext.refl W, _, _, rfl, HS7.out⟩
   cases ho
   have h8 : vs 8 = _ := hd ⟨8, .data⟩ (by simp) rfl
   rw [h8] at i8
   clear hd
   unfold GivesOp
   go_simp
   exact ⟨Ext.refl W, rfl⟩
  intro vs W hW hR
  rw [if_pos (by decide +kernel)]
  obtain ⟨fa, fc, h9, hs9⟩ : ∃ (fa : OA) (fc : Nat), vs 9 = .slice fa F.1.length fc /\ IsClas W F.1 fa F.1.length fc := hR 9 (by simp) (by omega)
  have HS9 := hI hs9
  clear hs9
  have h10 : vs 10 = .int .i64 F.2 := hR 10 (by simp) (by omega)
  simp only [acts, dstAt, List.range, List.range.loop, List.foldl_cons, List.foldl_nil, h9, h10]
  go_simp
  have hW2 : Ext wo W := hW
  clear hR hW h9 h10
  have HW2 := hI hW2
  have HS3 := hI (HW2.out.blk HSX.out)
  have HB3 := hI (HW2.out.blk HBX.out)
  have HX3 := hI (HXR.out.trans HW2.out)
  clear hW2 s0 sf c0 c1 cf c2
  obtain ⟨s0, sf⟩ := blk1 HS3.out
  have c2 := HPC.out W HX3.out
  obtain ⟨er, her⟩ : ∃ er, er = F.2 := ⟨_, rfl⟩
  rw [<- her]
  by_cases hz : er = 0
  case neg =>
   have tz : (er != 0) = true := by simp [hz]
   clear hz her
   go_wp2_with fail
   refine bodyPost_ret (v := .tuple #[.int .i64 pt, .int .i64 0, .int .i64 er]) (by simp [results, Tryz.results58, go_sem]) rfl ?_
   exact ⟨_, _, _, rfl, HX2.out.trans HX3.out⟩
  have tz : (er != 0) = false := by simp [hz]
  clear hz her
  obtain ⟨CE, hCE⟩ : ∃ CE, CE = clausesErr s F.1 := ⟨_, rfl⟩
  have HC5 := hI (HCL.out F.1 fa fc W (HX2.out.trans HX3.out) HS9.out HFT.out)
  rw [<- hCE] at HC5
  unfold clsV at HC5
  clear hCE
  go_wp2_with fail
  refine HC5.out.mono ?_
  rintro r w5 ⟨rfl, hx5⟩
  have HX5 := hI (HX3.out.trans hx5)
  have HS5 := hI (hx5.blk HS3.out)
  have HB5 := hI (hx5.blk HB3.out)
  have c2 := HPC.out w5 HX5.out
  clear hx5 s0 sf
  by_cases hz : CE.2 = 0
  case neg =>
   have tz : (CE.2 != 0) = true := by simp [hz]
   clear hz
   go_wp2_with fail
   refine bodyPost_ret (v := .tuple #[.int .i64 pt, .int .i64 _, .int .i64 _]) (by simp [results, Tryz.results58, go_sem]; exact ⟨rfl, rfl⟩) rfl ?_
   exact ⟨_, _, _, rfl, HX2.out.trans HX5.out⟩
  have tz : (CE.2 != 0) = false := by simp [hz]
  clear hz
  go_wp2_with fail
  go_roundw
  case rel => exact ⟨k + 1, by go_num, by omega, HS5.out, HB5.out, HX5.out⟩
  case measure => simp [intOf]; omega
theorem run_append_zero {P : Program} (W : World) (t ty e : TypeId) (i : TypeInfo) (ht : P.underlying t = some (.slice e)) (hi : P.info? e = some i) (b : OA) (n cap : Nat) (hnc : n <= cap) (ax : OA) (c : Nat) :
  (Builtin.append_ #[t, t] ty #[.slice b n cap, .slice ax 0 c]).run P W = .ok (.slice b n cap) W := by
 cases b <;> cases ax <;> simp [Builtin.append_, run_underlying ht, sizeOf, typeInfo, hi, Builtin.lenOf, Builtin.firstCells, hnc, storeCells, loadCells, loadCellsFrom]
theorem wpList_append_all {t e : TypeId} {z : Value} {size bytes : Nat} (E : ElemT t e z size bytes) {ops : Array Oper} {rest : List Oper} {o : Oper} {a : Act} {Q : Exit -> Act -> World -> Prop} {W : World}
  (hgd : o.guard = none) (s x : Operand) (ho : o.op = .call { callee := .builtin .append, args := #[s, x], argTypes := #[t, t] }) (base : Nat) (v : Value) (n : Nat) (xs : List Value) (hs : a.eval s = v) (hown : W.ownsRow base e size v n xs)
  (ax : OA) (m c : Nat) (news : List Value) (hx : a.eval x = .slice ax m c) (hl : news.length = m * size) (hnews : 0 < m -> ∃ b off, ax = some ⟨b, off, none⟩ /\ ∀ j (h : j < news.length), W.cell? ⟨b, off + j, none⟩ = some news[j]) (h1 : ∀ u ∈ news, u.oneCell' = true)
  (hn : n + m <= 100000000) (hb : bytes <= 1000) (hbase : base <= W.heap.size)
  (h : ∀ v' w', w'.ownsRow base e size v' (n + m) (xs ++ news) -> W.grownBy w' v.ownBlock -> (∀ k, v'.ownBlock = some k -> v.ownBlock = some k \/ k = W.heap.size) -> wpList Tryz.prog ops Q rest (a.put o.dst v') w') : wpList Tryz.prog ops Q (o :: rest) a W := by
 obtain ⟨i, hi, hz, hsz, hby⟩ := info_parts E.info
 by_cases hm : m = 0
 ·subst hm
  have hnil : news = [] := List.eq_nil_of_length_eq_zero (by simpa using hl)
  subst hnil
  obtain ⟨b, cap, rfl, hnc⟩ : ∃ b cap, v = .slice b n cap /\ n <= cap := by
   rcases hown.2 with ⟨rfl, rfl⟩ | ⟨g, cap, cur, rfl, _, _, hnc, _⟩
   ·exact ⟨none, 0, rfl, by omega⟩
   exact ⟨_, cap, rfl, hnc⟩
  refine wpList_plain hgd fun K hK => ?_
  have hrun := run_append_zero (P := Tryz.prog) W t o.type e i E.ht hi b n cap hnc ax c
  unfold Oper.wp
  simp [execOp, ho, resolve, invoke, builtin, hs, hx, hrun, Result.andThen]
  refine hK _ _ (h _ _ (by simpa using hown) ⟨rfl, rfl, rfl, Nat.le_refl _, fun _ _ _ => rfl⟩ (fun k hk => Or.inl hk))
 obtain ⟨b, off, rfl, hcell⟩ := hnews (by omega)
 refine wpList_append_lies W hgd s x t ho base e i z size bytes E.ht hi hz hsz hby E.hzs E.hsz v n xs hs hown ⟨b, off, none⟩ m c news hx hl ?_ h1 (by omega) (by simp only [maxLen]; omega) (by
  calc (n + m) * bytes <= 100000000 * 1000 := Nat.mul_le_mul hn hb
   _ <= 140737488355328 := by omega) hbase _ rfl ?_
 ·intro j u hu
  obtain ⟨hj, rfl⟩ := List.getElem?_eq_some_iff.1 hu
  have : (⟨b, off, none⟩ : Addr).add j = ⟨b, off + j, none⟩ := by unfold Addr.add; split <;> simp_all
  rw [this]
  exact hcell j hj
 intro g cap w' h2 h3 h4 _
 refine h _ w' h2 h3 fun k hk => ?_
 simp only [Value.ownBlock] at hk
 injection hk with hk
 subst hk
 exact h4
end Go.Proofs.YtpkljcgihobaiaaGreat
