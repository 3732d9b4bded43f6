/-
  Texts of the claim, joined: RInF, RPts, RWEr, Rates.
-/
import Derived.Test.YtefjomofjejklaaGreatCc21
namespace Go.Proofs.YtefjomofjejklaaGreat
set_option maxRecDepth 100000
set_option maxHeartbeats 32000000
open Go.RowKit
def ClsAt (w0 w : World) (v : Value) (l : List Cla) : Prop := ∃ vs : List ClV, w.ownsRow w0.heap.size 99 10 v l.length (vs.flatMap ClV.cells) /\ ClasR w0 l vs /\ Ext w0 w
theorem ClsAt.nil (w0 : World) : ClsAt w0 w0 (.slice none 0 0) [] := ⟨[], ⟨rfl, Or.inl ⟨rfl, rfl⟩⟩, ⟨rfl, fun i h => by simp at h⟩, Ext.refl _⟩
theorem ClsAt.clas {w0 w : World} {v : Value} {l : List Cla} (h : ClsAt w0 w v l) : ∃ a c, v = .slice a l.length c /\ IsClas w l a l.length c := by
 obtain ⟨vs, h1, h2, h3⟩ := h
 rw [h2.1] at h1
 obtain ⟨a, c, rfl, hr⟩ := IsRows.of_owns ClV.len h1
 refine ⟨a, c, by rw [h2.1], vs, by rw [h2.1]; exact hr, h2.1, fun i h4 h5 => (h2.2 i h4 h5).mono h3.sub⟩
theorem ClsAt.snoc {w0 w w' : World} {v v' : Value} {l : List Cla} {vs : List ClV} {c : Cla} {cv : ClV} {k : Nat} (hk : k = l.length) (hR : ClasR w0 l vs) (hx : Ext w0 w) (hown : w.ownsRow w0.heap.size 99 10 v k (vs.flatMap ClV.cells)) (hc : IsCla w0 c cv)
  (h : w'.ownsRow w0.heap.size 99 10 v' (k + 1) (vs.flatMap ClV.cells ++ cv.cells)) (hg : Chg (rowOf v) w w') : ClsAt w0 w' v' (l ++ [c]) := by
 refine ⟨vs ++ [cv], ?_, hR.snoc hc, hg.ext hx (fun y hy => (hown.lt y (mem_rowOf.1 hy)).1)⟩
 have : (l ++ [c]).length = k + 1 := by simp [hk]
 rw [this]
 simpa using h
theorem hasName_some {l : List Cla} {s : BA} {q : Nat} (h : findAt l s = some q) : hasName l s = true := by unfold hasName; rw [h]; rfl
theorem hasName_none {l : List Cla} {s : BA} (h : findAt l s = none) : hasName l s = false := by unfold hasName; rw [h]; rfl
theorem addAll_hit {l r : List Cla} {c : Cla} (h : hasName l c.name = true) : addAll l (c :: r) = none := by rw [addAll, if_pos h]
theorem addAll_next {l r : List Cla} {c : Cla} (h : hasName l c.name = false) : addAll l (c :: r) = addAll (l ++ [c]) r := by rw [addAll, if_neg (by simp [h])]
theorem addAll_len : (r l m : List Cla) -> addAll l r = some m -> m.length = l.length + r.length
 | [], l, m, h => by rw [addAll] at h; cases h; rfl
 | c :: r, l, m, h => by
  rw [addAll] at h
  by_cases hn : hasName l c.name = true
  ·rw [if_pos hn] at h; cases h
  rw [if_neg hn] at h
  have := addAll_len r _ m h
  simp at this ⊢; omega
def InFQ (R : List Cla × Int) (w : World) (e : Ending) (w' : World) : Prop := ∃ a c, e = .returned (.tuple #[.slice a R.1.length c, .int .i64 R.2]) /\ IsClas w' R.1 a R.1.length c /\ Ext w w'
theorem inFQ_err {R : List Cla × Int} {z : Int} {w w' : World} (h : R = ([], z)) (hx : Ext w w') : InFQ R w (.returned (.tuple #[.slice none 0 0, .int .i64 z])) w' := by
 subst h; exact ⟨none, 0, rfl, IsClas.nil _, hx⟩
theorem force_bad {h : Int} {l : List Cla} {x : Edm} {r : List Edm} {z : Int} (hz : z ≠ 0) (hs : edmStep h l x = ([], z)) : forceGo h l (x :: r) = ([], z) := by
 rw [forceGo, hs, if_pos hz]
theorem force_ok {h : Int} {l m : List Cla} {x : Edm} {r : List Edm} (hs : edmStep h l x = (m, 0)) : forceGo h l (x :: r) = forceGo h m r := by
 rw [forceGo, hs, if_neg (by simp)]
theorem step_out {h : Int} {l : List Cla} {x : Edm} (h1 : containsB x.frm x.upto h = false) : edmStep h l x = (l, 0) := by unfold edmStep; rw [if_pos h1]
theorem step_miss {h : Int} {l : List Cla} {x : Edm} {k : Nat} (h1 : containsB x.frm x.upto h = true) (hk : k < x.remove.length) (h2 : hasName l x.remove[k] = false) : edmStep h l x = ([], 7) := by
 unfold edmStep
 rw [if_neg (by simp [h1]), if_pos (by rw [List.all_eq_false]; exact ⟨_, List.getElem_mem hk, by simp [h2]⟩)]
theorem step_rest {h : Int} {l : List Cla} {x : Edm} (h1 : containsB x.frm x.upto h = true) (h2 : ∀ j (hj : j < x.remove.length), hasName l x.remove[j] = true) : edmStep h l x = stepRes (addAll (keptOf x.remove l) x.clauses) := by
 unfold edmStep
 rw [if_neg (by simp [h1]), if_neg]
 rw [Bool.not_eq_false, List.all_eq_true]
 intro y hy
 obtain ⟨j, hj, rfl⟩ := List.mem_iff_getElem.1 hy
 exact h2 j hj
theorem kept_take {rm : ZB} {l : List Cla} {k : Nat} (hk : k < l.length) : keptOf rm (l.take (k + 1)) = keptOf rm (l.take k) ++ (if (rm.any fun y => decide (y = l[k].name)) = true then [] else [l[k]]) := by
 unfold keptOf
 rw [List.take_succ_eq_append_getElem hk, List.filter_append]
 congr 1
 cases h : rm.any fun y => decide (y = l[k].name) <;> simp [h]
theorem rInForce_calls (x : Wrd) (v : Value) (h : Int) (w : World) (hw : IsWrd w x v) (hfit : x.fit) : Calls Tryz.prog 21 #[v, .int .i64 h] w (InFQ (inForce x h) w) := by
 have HWV := hI (fun W (hW : Ext w W) => rWording_calls x v W (hw.ext hW) hfit)
 obtain ⟨ca, cn, cn2, ea, en, ec, rfl, hcl, hed⟩ := hw
 have HC := hI hcl
 have HCN := hI hcl.len
 have HE := hI hed
 have HEN := hI hed.len
 have HFIT := hI hfit
 clear hcl hed hfit
 obtain ⟨R, hR⟩ : ∃ R, R = inForce x h := ⟨_, rfl⟩
 rw [<- hR]
 have HR := hI (show R = if wordingB x = false then ([], 5) else if hoursB h = false then ([], 1) else startRes h x.ends (addAll [] x.clauses) from hR)
 clear hR
 obtain ⟨wa, hwa⟩ : ∃ wa, wa = w.alloc (.cells #[.slice ca cn cn2, .slice ea en ec] 30) := ⟨_, rfl⟩
 have HXA := hI (show Ext w wa by rw [hwa]; exact (Ext.refl _).alloc _)
 have HBA := hI (show wa.heap[w.heap.size]? = some (.cells #[.slice ca cn cn2, .slice ea en ec] 30 (0, 0)) by rw [hwa]; exact alloc_new w _)
 obtain ⟨c0, c1, cf⟩ := blk2 HBA.out
 go_enter Tryz.func21, Tryz.ntmps21
 go_upto_region 1 with fail
 rw [<- hwa]
 clear hwa
 go_wp2_with fail
 refine (HWV.out wa HXA.out).mono ?_
 rintro r w1 ⟨rfl, hx1⟩
 have HX1 := hI (HXA.out.trans hx1)
 have HB1 := hI (hx1.blk HBA.out)
 clear hx1 c0 c1 cf HWV
 cases hwb : wordingB x
 ·have HF := hI (show R = ([], 5) by rw [HR.out, if_pos hwb])
  clear hwb
  go_wp2_with fail
  go_ret2
  exact inFQ_err HF.out HX1.out
 have hen : en <= 12 /\ cn <= 40 := by
  unfold wordingB clsB at hwb
  simp only [Bool.and_eq_true, decide_eq_true_eq] at hwb
  have := HEN.out
  have := HCN.out
  omega
 obtain ⟨hen, hcn⟩ := hen
 have HDL := hI (show ∀ y ∈ x.ends, y.clauses.length <= 40 /\ y.remove.length <= 40 by
  intro y hy
  unfold wordingB at hwb
  simp only [Bool.and_eq_true, List.all_eq_true] at hwb
  have := hwb.2 y hy
  unfold edmB clsB at this
  simp only [Bool.and_eq_true, decide_eq_true_eq] at this
  exact ⟨this.2.1, this.1.1.1.2⟩)
 go_wp2_with fail
 refine (rHours_calls h w1).mono ?_
 rintro r w2 ⟨rfl, hx2⟩
 have HX2 := hI (HX1.out.trans hx2)
 have HB2 := hI (hx2.blk HB1.out)
 clear hx2 HX1 HB1
 cases hhb : hoursB h
 ·have HF := hI (show R = ([], 1) by rw [HR.out, if_neg (by simp [hwb]), if_pos hhb])
  clear hwb hhb
  go_wp2_with fail
  go_ret2
  exact inFQ_err HF.out HX2.out
 obtain ⟨A, hA⟩ : ∃ A, addAll [] x.clauses = A := ⟨_, rfl⟩
 have HR2 := hI (show R = startRes h x.ends A by rw [HR.out, if_neg (by simp [hwb]), if_neg (by simp [hhb]), hA])
 have HA := hI hA
 clear hwb hhb hA HR
 have HSRC := hI (HC.out.ext HX2.out)
 have HLN := HCN
 go_wp2_with fail
 go_loopw [6, 7] (fun s t wr => ∃ (k : Nat) (L : List Cla), t = .int .i64 k /\ k <= cn /\ L.length <= k /\ addAll L (x.clauses.drop k) = A /\ ClsAt w2 wr s L /\ wr.heap[w.heap.size]? = some (.cells #[.slice ca cn cn2, .slice ea en ec] 30 (0, 0))) (fun _ t _ => cn - (intOf t).toNat)
 case atStart => exact ⟨0, [], rfl, Nat.zero_le _, Nat.zero_le _, HA.out, ClsAt.nil _, HB2.out⟩
 case round =>
  obtain ⟨k, L, rfl, hk, hll, hadd, hat, hbx⟩ := hrel
  obtain ⟨wo, rfl⟩ : ∃ wo : World, wo = wr := ⟨_, rfl⟩
  obtain ⟨vs, hown, hcr, hxr⟩ := hat
  obtain ⟨a, cc, hav, hcla⟩ := ClsAt.clas ⟨vs, hown, hcr, hxr⟩
  subst hav
  obtain ⟨ln, hln⟩ : ∃ ln, ln = L.length := ⟨_, rfl⟩
  rw [<- hln] at hown hcla hll ⊢
  have HLNE := hI hln
  have HCLA := hI hcla
  have HOWN := hI hown
  have HCR := hI hcr
  have HXR := hI hxr
  have HADD := hI hadd
  clear hln hcla hown hcr hxr hadd
  have HBX := hI hbx
  obtain ⟨b0, b1, bf⟩ := blk2 hbx
  clear hbx
  by_cases hkn : k < cn
  ·have hkl : k < x.clauses.length := by have := HLN.out; omega
   have t1 : decide ((k : Int) < (cn : Int)) = true := decide_eq_true (by omega)
   obtain ⟨b, off, cv, rfl, hcla, hrow⟩ := HSRC.out.at hkl
   obtain ⟨c0, c1, c2, c3, c4, c5, c6, c7, c8, c9⟩ := (hrow.mono HXR.out.sub).ten
   have HCQ := hI hcla
   have HNM := hI hcla.2.1
   have HFND := hI (rFind_calls L a ln cc cv.name wo HCLA.out (by omega))
   have HAD := hI (show addAll L (x.clauses[k] :: x.clauses.drop (k + 1)) = A by have := HADD.out; rwa [dropAt hkl] at this)
   have HC2 := hI (show cv.kind = cv.kind from rfl)
   clear hcla hrow
   cases hf : findAt L cv.name with
   | some q =>
    have HF := hI (show A = none by rw [<- HAD.out]; exact addAll_hit (by rw [<- HNM.out]; exact hasName_some hf))
    rw [hf] at HFND
    unfold optV at HFND
    simp only [Option.getD_some, Option.isSome_some] at HFND
    clear hf
    go_wp2_with fail
    refine HFND.out.mono ?_
    rintro r w3 ⟨rfl, rfl⟩
    go_wp2_with fail
    go_ret2
    exact inFQ_err (by rw [HR2.out, HF.out]; rfl) (HX2.out.trans HXR.out)
   | none =>
    have HF := hI (show addAll (L ++ [x.clauses[k]]) (x.clauses.drop (k + 1)) = A by rw [<- HAD.out]; exact (addAll_next (by rw [<- HNM.out]; exact hasName_none hf)).symm)
    rw [hf] at HFND
    unfold optV at HFND
    simp only [Option.getD_none, Option.isSome_none] at HFND
    clear hf
    go_wp2_with fail
    refine HFND.out.mono ?_
    rintro r w3 ⟨rfl, rfl⟩
    have hsz := HXR.out.size
    go_wp2_with (at_builtin; refine wpList_append_at elemCla rfl _ _ rfl w2.heap.size _ ln _ rfl HOWN.out _ 1 1 rfl (by simp) rfl (by simp [Value.oneCell']) (by unfold maxLen; omega) (by omega) (by omega) ?_)
    intro v8 w8 hown8 hc8 hw8
    have HAT8 := hI (ClsAt.snoc (cv := cv) HLNE.out HCR.out HXR.out HOWN.out HCQ.out (by simpa [ClV.cells] using hown8) hc8)
    have HL8 := hI (show (L ++ [x.clauses[k]]).length <= k + 1 by rw [List.length_append, <- HLNE.out]; simp; omega)
    have HBX8 := hI (hc8.blk HBX.out (fun hm => by have := (HOWN.out.lt _ (mem_rowOf.1 hm)).1; have := blk_lt HB2.out; omega))
    obtain ⟨a8, c8, hv8⟩ := owns_formG hown8
    subst hv8
    clear hown8 hc8 hw8
    go_wp2_with fail
    go_roundw
    case rel => exact ⟨k + 1, L ++ [x.clauses[k]], by go_num, by omega, HL8.out, HF.out, HAT8.out, HBX8.out⟩
    case measure => simp [intOf]; omega
  have t1 : decide ((k : Int) < (cn : Int)) = false := decide_eq_false (by omega)
  have HAL := hI (show A = some L by
   have := HADD.out
   rw [List.drop_eq_nil_of_le (by have := HLN.out; omega), addAll] at this
   exact this.symm)
  go_wp2_with fail
  have HLB := hI (show ln <= 100 by omega)
  have HGO := hI (show forceGo h L x.ends = R by rw [HR2.out, HAL.out]; rfl)
  rw [HLNE.out] at HLB HCLA ⊢
  have HX3 := hI (HX2.out.trans HXR.out)
  clear HLNE HOWN HCR HXR HADD HAL hkn hk hll t1 b0 b1 bf HSRC HLN
  have HEX := hI (fun W (hW : Ext wo W) => HE.out.ext (HX3.out.trans hW))
  obtain ⟨w3, hw3⟩ : ∃ w3, w3 = wo := ⟨_, rfl⟩
  rw [<- hw3] at HEX HX3 HBX HCLA ⊢
  clear hw3
  go_loopw [6, 10] (fun s t wr => ∃ (k : Nat) (L : List Cla) (a : OA) (c : Nat), s = .slice a L.length c /\ t = .int .i64 k /\ k <= en /\ L.length <= 100 /\ forceGo h L (x.ends.drop k) = R /\ IsClas wr L a L.length c /\ wr.heap[w.heap.size]? = some (.cells #[.slice ca cn cn2, .slice ea en ec] 30 (0, 0)) /\ Ext w3 wr) (fun _ t _ => en - (intOf t).toNat)
  case atStart => exact ⟨0, L, a, cc, rfl, rfl, Nat.zero_le _, HLB.out, HGO.out, HCLA.out, HBX.out, Ext.refl _⟩
  case round =>
   obtain ⟨k, L, a, cc, rfl, rfl, hk, hll, hgo, hcla, hbx, hxr⟩ := hrel
   obtain ⟨wo, rfl⟩ : ∃ wo : World, wo = wr := ⟨_, rfl⟩
   obtain ⟨ln, hln⟩ : ∃ ln, ln = L.length := ⟨_, rfl⟩
   rw [<- hln] at hcla hll ⊢
   have HLNE := hI hln
   have HCLA := hI hcla
   have HGO := hI hgo
   have HBX := hI hbx
   have HXR := hI hxr
   obtain ⟨b0, b1, bf⟩ := blk2 hbx
   clear hln hcla hgo hbx hxr
   by_cases hkn : k < en
   case neg =>
    have t1 : decide ((k : Int) < (en : Int)) = false := decide_eq_false (by omega)
    have HF := hI (show R = (L, 0) by
     have := HGO.out
     rw [List.drop_eq_nil_of_le (by have := HEN.out; omega), forceGo] at this
     exact this.symm)
    go_wp2_with fail
    go_ret2
    refine ⟨a, cc, by rw [HF.out, HLNE.out]; rfl, ?_, HX3.out.trans HXR.out⟩
    rw [HF.out]
    have := HCLA.out
    rwa [HLNE.out] at this
   have hkl : k < x.ends.length := by have := HEN.out; omega
   have t1 : decide ((k : Int) < (en : Int)) = true := decide_eq_true (by omega)
   obtain ⟨b, off, v, rfl, hvx, hedm, e0, e1, e2, e3⟩ := (HEX.out wo HXR.out).at hkl
   have HGO2 := hI (show forceGo h L (v.x :: x.ends.drop (k + 1)) = R by have := HGO.out; rwa [dropAt hkl, <- hvx] at this)
   have hdl := HDL.out _ (List.getElem_mem hkl)
   have hft := HFIT.out.2.2 _ (List.getElem_mem hkl)
   rw [<- hvx] at hdl hft
   obtain ⟨X, hX⟩ : ∃ X, X = v.x := ⟨_, rfl⟩
   rw [<- hX] at HGO2 hdl hft
   obtain ⟨fr, hfr⟩ : ∃ fr, fr = X.frm := ⟨_, rfl⟩
   obtain ⟨tt, htt⟩ : ∃ tt, tt = X.upto := ⟨_, rfl⟩
   obtain ⟨ra, hra⟩ : ∃ ra, ra = v.ra := ⟨_, rfl⟩
   obtain ⟨rn, hrn⟩ : ∃ rn, rn = v.rn := ⟨_, rfl⟩
   obtain ⟨rc, hrc⟩ : ∃ rc, rc = v.rc := ⟨_, rfl⟩
   obtain ⟨da, hda⟩ : ∃ da, da = v.ca := ⟨_, rfl⟩
   obtain ⟨dn, hdn⟩ : ∃ dn, dn = v.cn := ⟨_, rfl⟩
   obtain ⟨dc, hdc⟩ : ∃ dc, dc = v.cc := ⟨_, rfl⟩
   have hst := hedm.1
   have hcs := hedm.2
   rw [<- hX] at e0 e1 hst hcs
   rw [<- hra, <- hrn, <- hrc] at hst e2
   rw [<- hda, <- hdn, <- hdc] at hcs e3
   rw [<- hfr] at e0
   rw [<- htt] at e1
   have HFR := hI hfr
   have HTT := hI htt
   have HST := hI hst
   have HCS := hI hcs
   have HRN := hI hst.1
   have HDN := hI hcs.len
   have hrn40 : rn <= 40 := by have := hst.1; omega
   have hdn40 : dn <= 40 := by have := hcs.len; omega
   clear hvx hedm hX hfr htt hra hrn hrc hda hdn hdc hst hcs hdl hft
   obtain ⟨wb, hwb⟩ : ∃ wb, wb = wo.alloc (.cells #[.int .i64 fr, .int .i64 tt, .slice ra rn rc, .slice da dn dc] 93) := ⟨_, rfl⟩
   have HXB := hI (show Ext wo wb by rw [hwb]; exact (Ext.refl _).alloc _)
   have HBB := hI (show wb.heap[wo.heap.size]? = some (.cells #[.int .i64 fr, .int .i64 tt, .slice ra rn rc, .slice da dn dc] 93 (0, 0)) by rw [hwb]; exact alloc_new wo _)
   have HBX2 := hI (HXB.out.blk HBX.out)
   go_upto_region 17 with fail
   rw [<- hwb]
   clear hwb b0 b1 bf e0 e1 e2 e3
   obtain ⟨g0, g1, g2, g3, gf⟩ := blk4c HBB.out
   have hltb := blk_lt HBB.out
   go_wp2_with fail
   refine (rContains_calls fr tt h wb).mono ?_
   rintro r w4 ⟨rfl, hx4⟩
   have HX4 := hI (HXB.out.trans hx4)
   have HB4 := hI (hx4.blk HBB.out)
   have HBX4 := hI (hx4.blk HBX2.out)
   have HCL4 := hI (HCLA.out.ext HX4.out)
   clear hx4 g0 g1 g2 g3 gf hltb HXB HBB HBX2
   obtain ⟨g0, g1, g2, g3, gf⟩ := blk4c HB4.out
   have hltb := blk_lt HB4.out
   cases hcb : containsB fr tt h
   ·have HST0 := hI (step_out (h := h) (l := L) (x := X) (by rw [<- HFR.out, <- HTT.out]; exact hcb))
    have HG := hI ((force_ok HST0.out).symm.trans HGO2.out)
    clear hcb
    go_wp2_with fail
    go_roundw
    case rel =>
     rw [HLNE.out] at HCL4 hll ⊢
     exact ⟨k + 1, L, a, cc, rfl, by go_num, by omega, hll, HG.out, HCL4.out, HBX4.out, HXR.out.trans HX4.out⟩
    case measure => simp [intOf]; omega
   have HCB := hI (show containsB X.frm X.upto h = true by rw [<- HFR.out, <- HTT.out]; exact hcb)
   clear hcb
   have HRM := hI (HST.out.ext HX4.out)
   go_wp2_with fail
   go_loop [12] (fun t => ∃ j : Nat, t = .int .i64 j /\ j <= rn /\ (∀ i (hi : i < X.remove.length), i < j -> hasName L X.remove[i] = true)) (fun t => rn - (intOf t).toNat)
   case atStart => exact ⟨0, rfl, Nat.zero_le _, fun i _ h => by omega⟩
   case round =>
    obtain ⟨j, rfl, hj, hno⟩ := hrel
    have HNO := hI hno
    clear hno
    by_cases hjn : j < rn
    case pos =>
     have hjl : j < X.remove.length := by have := HRN.out; omega
     have t2 : decide ((j : Int) < (rn : Int)) = true := decide_eq_true (by omega)
     obtain ⟨b2, off2, rfl, s0⟩ := HRM.out.2.2.2 j hjl
     have HFND := hI (rFind_calls L a ln cc X.remove[j] w4 HCL4.out (by omega))
     cases hf : findAt L X.remove[j] with
     | some q =>
      have HF := hI (hasName_some hf)
      rw [hf] at HFND
      unfold optV at HFND
      simp only [Option.getD_some, Option.isSome_some] at HFND
      clear hf
      go_wp2_with fail
      refine HFND.out.mono ?_
      rintro r w5 ⟨rfl, rfl⟩
      go_wp2_with fail
      go_round
      case rel =>
       refine ⟨j + 1, by go_num, by omega, fun i hi hij => ?_⟩
       by_cases e : i = j
       ·subst e; exact HF.out
       exact HNO.out i hi (by omega)
      case measure => simp [intOf]; omega
     | none =>
      have HF := hI (show R = ([], 7) by rw [<- HGO2.out]; exact force_bad (by decide) (step_miss HCB.out hjl (hasName_none hf)))
      rw [hf] at HFND
      unfold optV at HFND
      simp only [Option.getD_none, Option.isSome_none] at HFND
      clear hf
      go_wp2_with fail
      refine HFND.out.mono ?_
      rintro r w5 ⟨rfl, rfl⟩
      go_wp2_with fail
      go_ret2
      exact inFQ_err HF.out (HX3.out.trans (HXR.out.trans HX4.out))
    case neg =>
     have t2 : decide ((j : Int) < (rn : Int)) = false := decide_eq_false (by omega)
     obtain ⟨A, hA⟩ : ∃ A, addAll (keptOf X.remove L) X.clauses = A := ⟨_, rfl⟩
     have HST0 := hI (show edmStep h L X = stepRes A by
      rw [<- hA]; exact step_rest HCB.out fun i hi => HNO.out i hi (by have := HRN.out; omega))
     have HA := hI hA
     clear hA
     go_wp2_with fail
     go_loopw [15, 16] (fun s t wr => ∃ (k : Nat) (M : List Cla), t = .int .i64 k /\ k <= ln /\ M = keptOf X.remove (L.take k) /\ M.length <= k /\ ClsAt w4 wr s M /\ wr.heap[w.heap.size]? = some (.cells #[.slice ca cn cn2, .slice (some ⟨b, off, none⟩) en ec] 30 (0, 0)) /\ wr.heap[wo.heap.size]? = some (.cells #[.int .i64 fr, .int .i64 tt, .slice ra rn rc, .slice da dn dc] 93 (0, 0))) (fun _ t _ => ln - (intOf t).toNat)
     case atStart => exact ⟨0, [], rfl, Nat.zero_le _, rfl, Nat.zero_le _, ClsAt.nil _, HBX4.out, HB4.out⟩
     case round =>
      obtain ⟨q, M, rfl, hq, hM, hml, hat, hbx, hbe⟩ := hrel
      obtain ⟨wq, rfl⟩ : ∃ wq : World, wq = wr := ⟨_, rfl⟩
      obtain ⟨vs, hown, hcr, hxr⟩ := hat
      obtain ⟨a5, c5, hav, hcla⟩ := ClsAt.clas ⟨vs, hown, hcr, hxr⟩
      obtain ⟨mn, hmn⟩ : ∃ mn, mn = M.length := ⟨_, rfl⟩
      rw [<- hmn] at hown hcla hml
      rw [<- hmn] at hav
      have HMN := hI hmn
      have HMM := hI hM
      have HOWN := hI hown
      have HCR := hI hcr
      have HXQ := hI hxr
      have HBX5 := hI hbx
      have HBE5 := hI hbe
      have HAT := hI (show ClsAt w4 wq u15 M from ⟨vs, hmn ▸ hown, hcr, hxr⟩)
      obtain ⟨b0, b1, bf⟩ := blk2 hbx
      obtain ⟨y0, y1, y2, y3, yf⟩ := blk4c hbe
      have hlte := blk_lt hbe
      clear hmn hM hown hcla hcr hxr hbx hbe
      by_cases hqn : q < ln
      case pos =>
       have hql : q < L.length := by have := HLNE.out; omega
       have t3 : decide ((q : Int) < (ln : Int)) = true := decide_eq_true (by omega)
       obtain ⟨b3, off3, cv, rfl, hcla, hrow⟩ := HCL4.out.at hql
       have HCQ := hI hcla
       have HRW := hI (show ∀ W, Ext w4 W -> _ from fun W hW => (hrow.mono hW.sub).ten)
       obtain ⟨c0, c1, c2, c3, c4, c5', c6, c7, c8, c9⟩ := HRW.out wq HXQ.out
       have HKT := hI (kept_take (rm := X.remove) hql)
       have hnm := hcla.2.1
       rw [<- hnm] at HKT
       have HWI := hI (fun W (hW : Ext w4 W) => rWithin_calls X.remove ra rn rc cv.name W (HRM.out.ext hW) (by omega))
       obtain ⟨D, hD⟩ : ∃ D, D = (X.remove.any fun y => decide (y = cv.name)) := ⟨_, rfl⟩
       rw [<- hD] at HWI HKT
       clear hcla hrow hnm hD
       subst hav
       go_upto_region 28 with fail
       go_still_tail 7, (by kernel_rfl)
       change wpList _ _ _ _ _ wq.drew
       have hxd : Ext wq wq.drew := (Ext.refl wq).drew
       generalize wq.drew = wd at hxd ⊢
       have HXD := hI (HXQ.out.trans hxd)
       have HBX6 := hI (hxd.blk HBX5.out)
       have HBE6 := hI (hxd.blk HBE5.out)
       have HO6 := hI (owns_ext HOWN.out hxd)
       clear hxd b0 b1 bf y0 y1 y2 y3 yf hlte c0 c1 c2 c3 c4 c5' c6 c7 c8 c9
       obtain ⟨y0, y1, y2, y3, yf⟩ := blk4c HBE6.out
       obtain ⟨c0, c1, c2, c3, c4, c5', c6, c7, c8, c9⟩ := HRW.out wd HXD.out
       have hlte := blk_lt HBE6.out
       go_wp2_with fail
       refine (HWI.out wd HXD.out).mono ?_
       rintro r w6 ⟨rfl, rfl⟩
       cases D
       ·have hsz := HXD.out.size
        go_wp2_with (at_builtin; refine wpList_append_at elemCla rfl _ _ rfl w4.heap.size _ mn _ rfl HO6.out _ 1 1 rfl (by simp) rfl (by simp [Value.oneCell']) (by unfold maxLen; omega) (by omega) (by omega) ?_)
        intro v8 w8 hown8 hc8 hw8
        have HAT8 := hI (ClsAt.snoc (cv := cv) HMN.out HCR.out HXD.out HO6.out HCQ.out (by simpa [ClV.cells] using hown8) hc8)
        have HL8 := hI (show (M ++ [L[q]]).length <= q + 1 by rw [List.length_append, <- HMN.out]; simp; omega)
        have HBX8 := hI (hc8.blk HBX6.out (fun hm => by have := (HO6.out.lt _ (mem_rowOf.1 hm)).1; have := blk_lt HBX4.out; omega))
        have HBE8 := hI (hc8.blk HBE6.out (fun hm => by have := (HO6.out.lt _ (mem_rowOf.1 hm)).1; have := blk_lt HB4.out; omega))
        have HM8 := hI (show M ++ [L[q]] = keptOf X.remove (L.take (q + 1)) by rw [HKT.out, <- HMM.out]; simp)
        obtain ⟨a8, c8', hv8⟩ := owns_formG hown8
        subst hv8
        clear hown8 hc8 hw8
        go_wp2_with fail
        go_roundw
        case rel => exact ⟨q + 1, M ++ [L[q]], by go_num, by omega, HM8.out, HL8.out, HAT8.out, HBX8.out, HBE8.out⟩
        case measure => simp [intOf]; omega
       have HM8 := hI (show M = keptOf X.remove (L.take (q + 1)) by rw [HKT.out, <- HMM.out]; simp)
       have HAT8 := hI (show ClsAt w4 wd (.slice a5 mn c5) M from ⟨vs, HMN.out ▸ HO6.out, HCR.out, HXD.out⟩)
       go_wp2_with fail
       go_roundw
       case rel => exact ⟨q + 1, M, by go_num, by omega, HM8.out, by rw [<- HMN.out]; omega, HAT8.out, HBX6.out, HBE6.out⟩
       case measure => simp [intOf]; omega
      case neg =>
       have t3 : decide ((q : Int) < (ln : Int)) = false := decide_eq_false (by omega)
       have HMK := hI (show M = keptOf X.remove L by rw [HMM.out, List.take_of_length_le (by have := HLNE.out; omega)])
       subst hav
       go_wp2_with fail
       have HSRC := hI (HCS.out.ext HX4.out)
       have HXR3 := HXR
       have HLN := HDN
       go_loopw [15, 17] (fun s t wr => ∃ (k : Nat) (L : List Cla), t = .int .i64 k /\ k <= dn /\ L.length <= ln + k /\ addAll L (X.clauses.drop k) = A /\ ClsAt w4 wr s L /\ wr.heap[w.heap.size]? = some (.cells #[.slice ca cn cn2, .slice (some ⟨b, off, none⟩) en ec] 30 (0, 0)) /\ wr.heap[wo.heap.size]? = some (.cells #[.int .i64 fr, .int .i64 tt, .slice ra rn rc, .slice da dn dc] 93 (0, 0))) (fun _ t _ => dn - (intOf t).toNat)
       case atStart => exact ⟨0, M, rfl, Nat.zero_le _, by rw [<- HMN.out]; omega, by rw [HMK.out]; exact HA.out, HAT.out, HBX5.out, HBE5.out⟩
       case round =>
        clear HAT HBX5 HBE5 HOWN HCR HXQ b0 b1 bf y0 y1 y2 y3 yf hlte HMN HMM HMK hml hq hqn t3
        obtain ⟨p, Q, rfl, hp, hll, hadd, hat, hbx, hbe⟩ := hrel
        obtain ⟨wp, rfl⟩ : ∃ wp : World, wp = wr := ⟨_, rfl⟩
        have HBX := hI hbx
        have HBE := hI hbe
        obtain ⟨y0, y1, y2, y3, yf⟩ := blk4c hbe
        have hlte := blk_lt hbe
        clear hbx hbe
        obtain ⟨vs, hown, hcr, hxr⟩ := hat
        obtain ⟨a7, cq, hav, hcla⟩ := ClsAt.clas ⟨vs, hown, hcr, hxr⟩
        subst hav
        obtain ⟨pn, hln⟩ : ∃ pn, pn = Q.length := ⟨_, rfl⟩
        rw [<- hln] at hown hcla hll ⊢
        have HLNE := hI hln
        have HCLA := hI hcla
        have HOWN := hI hown
        have HCR := hI hcr
        have HXR := hI hxr
        have HADD := hI hadd
        clear hln hcla hown hcr hxr hadd
        by_cases hkn : p < dn
        ·have hkl : p < X.clauses.length := by have := HLN.out; omega
         have t1 : decide ((p : Int) < (dn : Int)) = true := decide_eq_true (by omega)
         obtain ⟨b, off, cv, rfl, hcla, hrow⟩ := HSRC.out.at hkl
         obtain ⟨c0, c1, c2, c3, c4, c5, c6, c7, c8, c9⟩ := (hrow.mono HXR.out.sub).ten
         have HCQ := hI hcla
         have HNM := hI hcla.2.1
         have HFND := hI (rFind_calls Q a7 pn cq cv.name wp HCLA.out (by omega))
         have HAD := hI (show addAll Q (X.clauses[p] :: X.clauses.drop (p + 1)) = A by have := HADD.out; rwa [dropAt hkl] at this)
         have HC2 := hI (show cv.kind = cv.kind from rfl)
         clear hcla hrow
         cases hf : findAt Q cv.name with
         | some q =>
          have HF := hI (show A = none by rw [<- HAD.out]; exact addAll_hit (by rw [<- HNM.out]; exact hasName_some hf))
          rw [hf] at HFND
          unfold optV at HFND
          simp only [Option.getD_some, Option.isSome_some] at HFND
          clear hf
          go_wp2_with fail
          refine HFND.out.mono ?_
          rintro r w3 ⟨rfl, rfl⟩
          go_wp2_with fail
          go_ret2
          exact inFQ_err (show R = ([], 8) by rw [<- HGO2.out]; exact force_bad (by decide) (by rw [HST0.out, HF.out]; rfl)) (HX3.out.trans (HXR3.out.trans (HX4.out.trans HXR.out)))
         | none =>
          have HF := hI (show addAll (Q ++ [X.clauses[p]]) (X.clauses.drop (p + 1)) = A by rw [<- HAD.out]; exact (addAll_next (by rw [<- HNM.out]; exact hasName_none hf)).symm)
          rw [hf] at HFND
          unfold optV at HFND
          simp only [Option.getD_none, Option.isSome_none] at HFND
          clear hf
          go_wp2_with fail
          refine HFND.out.mono ?_
          rintro r w3 ⟨rfl, rfl⟩
          have hsz := HXR.out.size
          go_wp2_with (at_builtin; refine wpList_append_at elemCla rfl _ _ rfl w4.heap.size _ pn _ rfl HOWN.out _ 1 1 rfl (by simp) rfl (by simp [Value.oneCell']) (by unfold maxLen; omega) (by omega) (by omega) ?_)
          intro v8 w8 hown8 hc8 hw8
          have HAT8 := hI (ClsAt.snoc (cv := cv) HLNE.out HCR.out HXR.out HOWN.out HCQ.out (by simpa [ClV.cells] using hown8) hc8)
          have HL8 := hI (show (Q ++ [X.clauses[p]]).length <= ln + p + 1 by rw [List.length_append, <- HLNE.out]; simp; omega)
          have HBX8 := hI (hc8.blk HBX.out (fun hm => by have := (HOWN.out.lt _ (mem_rowOf.1 hm)).1; have := blk_lt HBX4.out; omega))
          have HBE8 := hI (hc8.blk HBE.out (fun hm => by have := (HOWN.out.lt _ (mem_rowOf.1 hm)).1; have := blk_lt HB4.out; omega))
          obtain ⟨a8, c8, hv8⟩ := owns_formG hown8
          subst hv8
          clear hown8 hc8 hw8
          go_wp2_with fail
          go_roundw
          case rel => exact ⟨p + 1, Q ++ [X.clauses[p]], by go_num, by omega, HL8.out, HF.out, HAT8.out, HBX8.out, HBE8.out⟩
          case measure => simp [intOf]; omega
        have t1 : decide ((p : Int) < (dn : Int)) = false := decide_eq_false (by omega)
        have HAL := hI (show A = some Q by
         have := HADD.out
         rw [List.drop_eq_nil_of_le (by have := HLN.out; omega), addAll] at this
         exact this.symm)
        by_cases h100 : 100 < pn
        ·have t5 : decide ((100 : Int) < (pn : Int)) = true := decide_eq_true (by omega)
         have HF := hI (show R = ([], 4) by rw [<- HGO2.out]; exact force_bad (by decide) (by rw [HST0.out, HAL.out, stepRes, if_pos (by rw [<- HLNE.out]; exact h100)]))
         go_wp2_with fail
         go_ret2
         exact inFQ_err HF.out (HX3.out.trans (HXR3.out.trans (HX4.out.trans HXR.out)))
        have t5 : decide ((100 : Int) < (pn : Int)) = false := decide_eq_false (by omega)
        have HG := hI ((force_ok (show edmStep h L X = (Q, 0) by rw [HST0.out, HAL.out, stepRes, if_neg (by rw [<- HLNE.out]; exact h100)])).symm.trans HGO2.out)
        go_wp2_with fail
        rw [HLNE.out] at HCLA h100 ⊢
        go_roundw
        case rel => exact ⟨k + 1, Q, a7, cq, rfl, by go_num, by omega, by omega, HG.out, HCLA.out, HBX.out, HXR3.out.trans (HX4.out.trans HXR.out)⟩
        case measure => simp [intOf]; omega
theorem addPt_len (l : ZI) (x : Int) : (addPt l x).length <= l.length + 1 := by
 induction l with
 | nil => simp [addPt]
 | cons y r ih =>
  unfold addPt
  by_cases h1 : x < y
  ·rw [if_pos h1]; simp
  rw [if_neg h1]
  by_cases h2 : x = y
  ·rw [if_pos h2]; simp
  rw [if_neg h2]; simp; omega
theorem isIntF_extG {w w' : World} {f : ZI} {a : OA} {n : Nat} (h : IsIntF w f a n) (hx : Ext w w') : IsIntF w' f a n := h.mono hx.sub
theorem isIntF_one {w : World} {b : Nat} {z : Int} {t : TypeId} (h : w.heap[b]? = some (.cells #[.int .i64 z] t (0, 0))) : IsIntF w [z] (some ⟨b, 0, none⟩) 1 := by
 refine ⟨rfl, fun i hi => ⟨b, 0, rfl, ?_⟩⟩
 obtain rfl : i = 0 := by simp at hi; exact hi
 exact (blk1 h).1
def pt8R (la : OA) (lc : Nat) (L : ZI) (fr tt : Int) (wo : World) : Nat -> Value -> World -> Prop
 | 0, u, _ => u = .slice la L.length lc
 | 1, u, _ => u = .pointer (some ⟨wo.heap.size, 0, none⟩)
 | 2, u, _ => u = .int .i64 fr
 | 3, u, W => ∃ (p3 : OA) (q3 : Nat), u = .slice p3 (addPt L fr).length q3 /\ IsIntF W (addPt L fr) p3 (addPt L fr).length
 | 4, u, _ => u = .pointer (some ⟨wo.heap.size, 1, none⟩)
 | 5, u, _ => u = .int .i64 tt
 | _, u, W => ∃ (p7 : OA) (q7 : Nat), u = .slice p7 (addPt (addPt L fr) tt).length q7 /\ IsIntF W (addPt (addPt L fr) tt) p7 (addPt (addPt L fr) tt).length
theorem rPoints_calls (x : Wrd) (v : Value) (w : World) (hw : IsWrd w x v) (hfit : x.fit) : Calls Tryz.prog 71 #[v] w (IntsQ (points x) w) := by
 have HWV := hI (fun W (hW : Ext w W) => rWording_calls x v W (hw.ext hW) hfit)
 obtain ⟨ca, cn, cc, ea, en, ec, rfl, hcl, hed⟩ := hw
 have HE := hI hed
 have HEN := hI hed.len
 clear hcl hed hfit
 obtain ⟨R, hR⟩ : ∃ R, R = points x := ⟨_, rfl⟩
 rw [<- hR]
 have HR := hI (show R = if wordingB x = false then [] else pointsGo [0] x.ends from hR)
 clear hR
 obtain ⟨wa, hwa⟩ : ∃ wa, wa = w.alloc (.cells #[.slice ca cn cc, .slice ea en ec] 30) := ⟨_, rfl⟩
 have HXA := hI (show Ext w wa by rw [hwa]; exact (Ext.refl _).alloc _)
 have HBA := hI (show wa.heap[w.heap.size]? = some (.cells #[.slice ca cn cc, .slice ea en ec] 30 (0, 0)) by rw [hwa]; exact alloc_new w _)
 obtain ⟨c0, c1, cf⟩ := blk2 HBA.out
 go_enter Tryz.func71, Tryz.ntmps71
 go_upto_region 1 with fail
 rw [<- hwa]
 clear hwa
 go_wp2_with fail
 refine (HWV.out wa HXA.out).mono ?_
 rintro r w1 ⟨rfl, hx1⟩
 have HX1 := hI (HXA.out.trans hx1)
 have HB1 := hI (hx1.blk HBA.out)
 clear hx1 c0 c1 cf HWV
 cases hwb : wordingB x
 ·have HF := hI (show R = [] by rw [HR.out, if_pos hwb])
  clear hwb
  go_wp2_with fail
  go_ret
  refine ⟨none, 0, by rw [HF.out]; rfl, ?_, HX1.out⟩
  rw [HF.out]
  exact ⟨rfl, fun i hi => by simp at hi⟩
 have HR2 := hI (show pointsGo [0] x.ends = R by rw [HR.out, if_neg (by simp [hwb])])
 have hen : en <= 12 := by
  unfold wordingB at hwb
  simp only [Bool.and_eq_true, decide_eq_true_eq] at hwb
  have := HEN.out
  omega
 clear hwb HR
 go_wp2_with fail
 generalize hwn : World.alloc _ _ = wn
 have hxn : Ext w1 wn := by rw [<- hwn]; exact (Ext.refl _).alloc _
 have hbn : wn.heap[w1.heap.size]? = some (.cells #[.int .i64 0] 3 (0, 0)) := by rw [<- hwn]; exact alloc_new w1 _
 have HXN := hI (HX1.out.trans hxn)
 have HBN := hI (hxn.blk HB1.out)
 have HIN := hI (isIntF_one hbn)
 clear hwn hxn hbn
 go_loopw [3, 4] (fun s t wr => ∃ (k : Nat) (L : ZI) (a : OA) (c : Nat), s = .slice a L.length c /\ t = .int .i64 k /\ k <= en /\ L.length <= 1 + 2 * k /\ pointsGo L (x.ends.drop k) = R /\ IsIntF wr L a L.length /\ wr.heap[w.heap.size]? = some (.cells #[.slice ca cn cc, .slice ea en ec] 30 (0, 0)) /\ Ext w wr) (fun _ t _ => en - (intOf t).toNat)
 case atStart => exact ⟨0, [0], _, 1, rfl, rfl, Nat.zero_le _, by simp, HR2.out, HIN.out, HBN.out, HXN.out⟩
 case round =>
  obtain ⟨k, L, la, lc, rfl, rfl, hk, hll, hgo, hil, hbx, hxr⟩ := hrel
  obtain ⟨wo, rfl⟩ : ∃ wo : World, wo = wr := ⟨_, rfl⟩
  obtain ⟨ln, hln⟩ : ∃ ln, ln = L.length := ⟨_, rfl⟩
  rw [<- hln] at hil hll ⊢
  have HLN := hI hln
  have HGO := hI hgo
  have HIL := hI hil
  have HBX := hI hbx
  have HXR := hI hxr
  obtain ⟨b0, b1, bf⟩ := blk2 hbx
  clear hln hgo hil hbx hxr
  by_cases hkn : k < en
  ·have hkl : k < x.ends.length := by have := HEN.out; omega
   have t1 : decide ((k : Int) < (en : Int)) = true := decide_eq_true (by omega)
   obtain ⟨b, off, v, rfl, hvx, hedm, e0, e1, e2, e3⟩ := (HE.out.ext HXR.out).at hkl
   have HGO2 := hI (show pointsGo (addPt (addPt L v.x.frm) v.x.upto) (x.ends.drop (k + 1)) = R by have := HGO.out; rw [dropAt hkl, <- hvx] at this; exact this)
   obtain ⟨fr, hfr⟩ : ∃ fr, fr = v.x.frm := ⟨_, rfl⟩
   obtain ⟨tt, htt⟩ : ∃ tt, tt = v.x.upto := ⟨_, rfl⟩
   rw [<- hfr, <- htt] at HGO2
   rw [<- hfr] at e0
   rw [<- htt] at e1
   clear hvx hedm e2 e3 hfr htt
   obtain ⟨wb, hwb⟩ : ∃ wb, wb = wo.alloc (.cells #[.int .i64 fr, .int .i64 tt] 89) := ⟨_, rfl⟩
   have HXB := hI (show Ext wo wb by rw [hwb]; exact (Ext.refl _).alloc _)
   have HBB := hI (show wb.heap[wo.heap.size]? = some (.cells #[.int .i64 fr, .int .i64 tt] 89 (0, 0)) by rw [hwb]; exact alloc_new wo _)
   have HBX2 := hI (HXB.out.blk HBX.out)
   have HILB := hI (isIntF_extG HIL.out HXB.out)
   have hle1 := addPt_len L fr
   have hle2 := addPt_len (addPt L fr) tt
   have HA1 := hI (fun (a : OA) (c : Nat) W (h : IsIntF W L a L.length) => radd_calls L a L.length c fr W h (by have := HLN.out; omega))
   have HA2 := hI (fun (a : OA) (c : Nat) W (h : IsIntF W (addPt L fr) a (addPt L fr).length) => radd_calls (addPt L fr) a (addPt L fr).length c tt W h (by have := HLN.out; omega))
   have HL2 := hI (show (addPt (addPt L fr) tt).length <= 1 + 2 * (k + 1) by have := HLN.out; omega)
   rw [HLN.out] at HILB ⊢
   clear hle1 hle2 hll
   go_upto_region 8 with fail
   rw [<- hwb]
   clear hwb b0 b1 bf e0 e1
   obtain ⟨d0, d1, df⟩ := blk2 HBB.out
   have hltb := blk_lt HBB.out
   go_upto_region 8 with fail
   refine wp_region_grow (m := 7) [6] (GrG wb) GrE (GrP (pt8R la lc L fr tt wo)) (by kernel_rfl) (by kernel_rfl) ((Ext.refl wb).drew) ?_ ?_ ?_
   ·intro i k v W W' hi hk hne hout h hE
    have hE : Ext W W' := hE
    have hi' := ltc7 hi
    clear hi hk hne hout
    rcases hi' with rfl | rfl | rfl | rfl | rfl | rfl | rfl
    ·exact h
    ·exact h
    ·exact h
    ·obtain ⟨p3, q3, e0, h⟩ := h
     exact ⟨p3, q3, e0, isIntF_extG h hE⟩
    ·exact h
    ·exact h
    obtain ⟨p7, q7, e0, h⟩ := h
    exact ⟨p7, q7, e0, isIntF_extG h hE⟩
   ·intro q op hq ho vs W hW hd ρ hρ
    have hq' := ltc7 hq
    clear hq
    have o3 : ρ (.tmp 3) = .slice la L.length lc := hρ.out 3 rfl
    have o5 : ρ (.tmp 5) = .pointer (some ⟨wo.heap.size, 0, none⟩) := hρ.out 5 rfl
    have i1 := hρ.i 1 24
    have i0 := hρ.i 0 23
    have i2 := hρ.i 2 25
    have i4 := hρ.i 4 27
    have i3 := hρ.i 3 26
    have i5 := hρ.i 5 28
    have hc := hρ.const
    have hfn := hρ.func
    clear hρ
    have HW := hI (show Ext wb W from hW)
    rcases hq' with rfl | rfl | rfl | rfl | rfl | rfl | rfl
    ·cases ho
     clear hd
     unfold GivesOp
     go_simp
     exact ⟨Ext.refl W, rfl⟩
    ·cases ho
     clear hd
     unfold GivesOp
     go_simp
     exact ⟨Ext.refl W, rfl⟩
    ·cases ho
     have h1 : vs 1 = _ := hd ⟨1, .data⟩ (by simp) rfl
     rw [h1] at i1
     clear hd
     have g2 := HW.out.cell d0
     unfold GivesOp
     go_simp
     exact ⟨Ext.refl W, rfl⟩
    ·cases ho
     have h0 : vs 0 = _ := hd ⟨0, .data⟩ (by simp) rfl
     rw [h0] at i0
     have h2 : vs 2 = _ := hd ⟨2, .data⟩ (by simp) rfl
     rw [h2] at i2
     clear hd
     unfold GivesOp
     go_simp
     refine (HA1.out la lc W (isIntF_extG HILB.out HW.out)).mono ?_
     rintro r w5 ⟨p3, q3, rfl, hi5, hx5⟩
     exact ⟨_, rfl, hx5, HW.out.trans hx5, p3, q3, rfl, hi5⟩
    ·cases ho
     clear hd
     unfold GivesOp
     go_simp
     exact ⟨Ext.refl W, rfl⟩
    ·cases ho
     have h4 : vs 4 = _ := hd ⟨4, .data⟩ (by simp) rfl
     rw [h4] at i4
     clear hd
     have g5 := HW.out.cell d1
     unfold GivesOp
     go_simp
     exact ⟨Ext.refl W, rfl⟩
    cases ho
    obtain ⟨p3, q3, h3, hs3⟩ : ∃ (p3 : OA) (q3 : Nat), vs 3 = .slice p3 (addPt L fr).length q3 /\ IsIntF W (addPt L fr) p3 (addPt L fr).length := hd ⟨3, .data⟩ (by simp) rfl
    have HS3 := hI hs3
    clear hs3
    rw [h3] at i3
    have h5 : vs 5 = _ := hd ⟨5, .data⟩ (by simp) rfl
    rw [h5] at i5
    clear hd
    unfold GivesOp
    go_simp
    refine (HA2.out p3 q3 W HS3.out).mono ?_
    rintro r w5 ⟨p7, q7, rfl, hi5, hx5⟩
    exact ⟨_, rfl, hx5, HW.out.trans hx5, p7, q7, rfl, hi5⟩
   intro vs W hW hR
   rw [if_neg (by decide +kernel)]
   obtain ⟨p7, q7, h6, hs6⟩ : ∃ (p7 : OA) (q7 : Nat), vs 6 = .slice p7 (addPt (addPt L fr) tt).length q7 /\ IsIntF W (addPt (addPt L fr) tt) p7 (addPt (addPt L fr) tt).length := hR 6 (by simp) (by omega)
   have HS6 := hI hs6
   clear hs6
   refine wpOp_lastG rfl ?_
   change wpList _ _ _ [⟨some 3, .assign (.tmp 29), _, _, _, none⟩] _ _
   simp only [acts, dstAt, List.range, List.range.loop, List.foldl_cons, List.foldl_nil, h6]
   go_simp
   have hW2 : Ext wb W := hW
   clear hR hW h6
   have HW2 := hI hW2
   clear hW2
   go_wp2_with fail
   go_roundw
   case rel => exact ⟨k + 1, _, p7, q7, rfl, by go_num, by omega, HL2.out, HGO2.out, HS6.out, HW2.out.blk HBX2.out, (HXR.out.trans HXB.out).trans HW2.out⟩
   case measure => simp [intOf]; omega
  have t1 : decide ((k : Int) < (en : Int)) = false := decide_eq_false (by omega)
  have HQ := hI (show L = R by
   have := HGO.out
   rw [List.drop_eq_nil_of_le (by have := HEN.out; omega)] at this
   exact this)
  rw [HLN.out] at HIL ⊢
  go_wp2_with fail
  go_ret
  refine ⟨la, lc, by rw [<- HQ.out]; rfl, ?_, HXR.out⟩
  rw [<- HQ.out]
  exact HIL.out
theorem addAll_mem : (r l m : List Cla) -> addAll l r = some m -> ∀ c ∈ m, c ∈ l \/ c ∈ r
 | [], l, m, h, c, hc => by rw [addAll] at h; cases h; exact Or.inl hc
 | d :: r, l, m, h, c, hc => by
  rw [addAll] at h
  by_cases hn : hasName l d.name = true
  ·rw [if_pos hn] at h; cases h
  rw [if_neg hn] at h
  rcases addAll_mem r _ m h c hc with q | q
  ·rcases List.mem_append.1 q with q | q
   ·exact Or.inl q
   exact Or.inr (by simp at q; simp [q])
  exact Or.inr (by simp [q])
theorem step_mem {h : Int} {l : List Cla} {x : Edm} : (∀ c ∈ (edmStep h l x).1, c ∈ l \/ c ∈ x.clauses) /\ ((edmStep h l x).1.length <= l.length \/ (edmStep h l x).1.length <= 100) := by
 unfold edmStep
 by_cases h1 : containsB x.frm x.upto h = false
 ·rw [if_pos h1]; exact ⟨fun c hc => Or.inl hc, Or.inl (Nat.le_refl _)⟩
 rw [if_neg h1]
 by_cases h2 : x.remove.all (hasName l) = false
 ·rw [if_pos h2]; exact ⟨fun c hc => by simp at hc, Or.inl (by simp)⟩
 rw [if_neg h2]
 cases ha : addAll (keptOf x.remove l) x.clauses with
 | none => exact ⟨fun c hc => by simp [stepRes] at hc, Or.inl (by simp [stepRes])⟩
 | some m =>
  unfold stepRes
  by_cases h3 : 100 < m.length
  ·simp only [if_pos h3]; exact ⟨fun c hc => by simp at hc, Or.inl (by simp)⟩
  simp only [if_neg h3]
  refine ⟨fun c hc => ?_, Or.inr (by omega)⟩
  rcases addAll_mem _ _ _ ha c hc with q | q
  ·exact Or.inl (List.mem_filter.1 q).1
  exact Or.inr q
theorem force_mem (h : Int) : (r : List Edm) -> (l : List Cla) -> (∀ c ∈ (forceGo h l r).1, c ∈ l \/ ∃ x ∈ r, c ∈ x.clauses) /\ ((forceGo h l r).1.length <= l.length \/ (forceGo h l r).1.length <= 100)
 | [], l => ⟨fun c hc => Or.inl hc, Or.inl (Nat.le_refl _)⟩
 | x :: r, l => by
  rw [forceGo]
  by_cases h1 : (edmStep h l x).2 ≠ 0
  ·rw [if_pos h1]; exact ⟨fun c hc => by simp at hc, Or.inl (by simp)⟩
  rw [if_neg h1]
  obtain ⟨a1, a2⟩ := force_mem h r (edmStep h l x).1
  obtain ⟨b1, b2⟩ := step_mem (h := h) (l := l) (x := x)
  refine ⟨fun c hc => ?_, by omega⟩
  rcases a1 c hc with q | ⟨y, hy, q⟩
  ·rcases b1 c q with q | q
   ·exact Or.inl q
   exact Or.inr ⟨x, by simp, q⟩
  exact Or.inr ⟨y, by simp [hy], q⟩
theorem inForce_fit {x : Wrd} (hf : x.fit) (h : Int) : fitClas (inForce x h).1 := by
 unfold inForce
 by_cases h1 : wordingB x = false
 ·rw [if_pos h1]; exact ⟨by simp, fun c hc => by simp at hc⟩
 rw [if_neg h1]
 by_cases h2 : hoursB h = false
 ·rw [if_pos h2]; exact ⟨by simp, fun c hc => by simp at hc⟩
 rw [if_neg h2]
 cases ha : addAll [] x.clauses with
 | none => exact ⟨by simp [startRes], fun c hc => by simp [startRes] at hc⟩
 | some l =>
  have hl := addAll_len _ _ _ ha
  have hm := addAll_mem _ _ _ ha
  obtain ⟨a1, a2⟩ := force_mem h x.ends l
  show fitClas (forceGo h l x.ends).1
  refine ⟨by have := hf.1.1; simp at hl; omega, fun c hc => ?_⟩
  rcases a1 c hc with q | ⟨y, hy, q⟩
  ·rcases hm c q with q | q
   ·simp at q
   exact hf.1.2 c q
  exact (hf.2.2 y hy).2.2.2 c q
theorem pointsGo_len : (r : List Edm) -> (l : ZI) -> (pointsGo l r).length <= l.length + 2 * r.length
 | [], l => by simp [pointsGo]
 | x :: r, l => by
  rw [pointsGo]
  have h1 := addPt_len l x.frm
  have h2 := addPt_len (addPt l x.frm) x.upto
  have h3 := pointsGo_len r (addPt (addPt l x.frm) x.upto)
  simp; omega
theorem points_len (x : Wrd) : (points x).length <= 100 := by
 unfold points
 by_cases h : wordingB x = false
 ·rw [if_pos h]; simp
 rw [if_neg h]
 have := pointsGo_len x.ends [0]
 have h12 : x.ends.length <= 12 := by
  unfold wordingB at h
  simp only [Bool.not_eq_false, Bool.and_eq_true, decide_eq_true_eq] at h
  exact h.1.1
 simp at this; omega
def WErQ (w : World) (e : Ending) (w' : World) : Prop := ∃ a b c : Int, e = .returned (.tuple #[.int .i64 a, .int .i64 b, .int .i64 c]) /\ Ext w w'
def we7R (b off pn pc k : Nat) (pt : Int) (ca ea : OA) (cn cc en ec : Nat) (F : List Cla × Int) : Nat -> Value -> World -> Prop
 | 0, u, _ => u = .agg #[.slice ca cn cc, .slice ea en ec]
 | 1, u, _ => u = .slice (some ⟨b, off, none⟩) pn pc
 | 2, u, _ => u = .int .i64 k
 | 3, u, _ => u = .pointer (some ⟨b, off + k, none⟩)
 | 4, u, _ => u = .int .i64 pt
 | 5, u, W => ∃ (fa : OA) (fc : Nat), u = .tuple #[.slice fa F.1.length fc, .int .i64 F.2] /\ IsClas W F.1 fa F.1.length fc
 | 6, u, W => ∃ (fa : OA) (fc : Nat), u = .tuple #[.slice fa F.1.length fc, .int .i64 F.2] /\ IsClas W F.1 fa F.1.length fc
 | 7, u, W => ∃ (fa : OA) (fc : Nat), u = .slice fa F.1.length fc /\ IsClas W F.1 fa F.1.length fc
 | 8, u, _ => u = .int .i64 F.2
 | 9, u, W => ∃ (fa : OA) (fc : Nat), u = .slice fa F.1.length fc /\ IsClas W F.1 fa F.1.length fc
 | _, u, _ => u = .int .i64 F.2
theorem rWErr_calls (s : List Attr) (sv : Value) (x : Wrd) (v : Value) (w : World) (hs : IsSchema w s sv) (hf : ∀ x ∈ s, x.fits) (hsl : s.length <= 1000000000000000) (hw : IsWrd w x v) (hfit : x.fit) :
  Calls Tryz.prog 36 #[sv, v] w (WErQ w) := by
 obtain ⟨sa, sn, sc, rfl, hsn⟩ := hs.slice
 have HWV := hI (fun W (hW : Ext w W) => rWording_calls x v W (hw.ext hW) hfit)
 have HPT := hI (fun W (hW : Ext w W) => rPoints_calls x v W (hw.ext hW) hfit)
 have HIF := hI (fun h W (hW : Ext w W) => rInForce_calls x v h W (hw.ext hW) hfit)
 have HCL := hI (fun (l : List Cla) a c W (hW : Ext w W) (hl : IsClas W l a l.length c) (hfl : fitClas l) => rClauses_calls s l (.agg #[.slice sa sn sc]) a l.length c W (hs.ext hW) hf hsl hl hfl.1 hfl.2)
 have HFI := hI (fun h => inForce_fit hfit h)
 obtain ⟨ca, cn, cc, ea, en, ec, rfl, hcl, hed⟩ := hw
 clear hs hf hsl hcl hed hfit hsn
 obtain ⟨wa, hwa⟩ : ∃ wa, wa = (w.alloc (.cells #[.slice sa sn sc] 25)).alloc (.cells #[.slice ca cn cc, .slice ea en ec] 30) := ⟨_, rfl⟩
 have HXA := hI (show Ext w wa by rw [hwa]; exact ((Ext.refl _).alloc _).alloc _)
 have HSA := hI (show wa.heap[w.heap.size]? = some (.cells #[.slice sa sn sc] 25 (0, 0)) by rw [hwa]; exact blk_alloc (alloc_new w _))
 have HBA := hI (show wa.heap[w.heap.size + 1]? = some (.cells #[.slice ca cn cc, .slice ea en ec] 30 (0, 0)) by
  rw [hwa]; have := alloc_new (w.alloc (.cells #[.slice sa sn sc] 25)) (.cells #[.slice ca cn cc, .slice ea en ec] 30); rwa [World.size_alloc] at this)
 obtain ⟨s0, sf⟩ := blk1 HSA.out
 obtain ⟨c0, c1, cf⟩ := blk2 HBA.out
 go_enter Tryz.func36, Tryz.ntmps36
 go_upto_region 1 with fail
 rw [<- hwa]
 clear hwa
 go_wp2_with fail
 refine (HWV.out wa HXA.out).mono ?_
 rintro r w1 ⟨rfl, hx1⟩
 have HX1 := hI (HXA.out.trans hx1)
 have HS1 := hI (hx1.blk HSA.out)
 have HB1 := hI (hx1.blk HBA.out)
 clear hx1 c0 c1 cf s0 sf HWV HXA HSA HBA
 obtain ⟨s0, sf⟩ := blk1 HS1.out
 obtain ⟨c0, c1, cf⟩ := blk2 HB1.out
 cases hwb : wordingB x
 ·go_wp2_with fail
  refine bodyPost_ret (v := .tuple #[.int .i64 0, .int .i64 0, .int .i64 5]) (by simp [results, Tryz.results36, go_sem]) rfl ?_
  exact ⟨0, 0, 5, rfl, HX1.out⟩
 clear hwb
 go_wp2_with fail
 refine (HPT.out w1 HX1.out).mono ?_
 rintro r w2 ⟨pa, pc, rfl, hpi, hx2⟩
 obtain ⟨pts, hpts⟩ : ∃ pts, pts = points x := ⟨_, rfl⟩
 have hpl := points_len x
 rw [<- hpts] at hpi hpl ⊢
 obtain ⟨pn, hpn⟩ : ∃ pn, pn = pts.length := ⟨_, rfl⟩
 rw [<- hpn] at hpi hpl ⊢
 have HPI := hI hpi
 have HPN := hI hpn
 have HX2 := hI (HX1.out.trans hx2)
 have HS2 := hI (hx2.blk HS1.out)
 have HB2 := hI (hx2.blk HB1.out)
 clear hx2 hpi hpn hpts c0 c1 cf s0 sf HS1 HB1 HX1 HPT
 go_wp2_with fail
 go_loopw [8] (fun t wr => ∃ k : Nat, t = .int .i64 k /\ k <= pn /\ wr.heap[w.heap.size]? = some (.cells #[.slice sa sn sc] 25 (0, 0)) /\ wr.heap[w.heap.size + 1]? = some (.cells #[.slice ca cn cc, .slice ea en ec] 30 (0, 0)) /\ Ext w2 wr) (fun t _ => pn - (intOf t).toNat)
 case atStart => exact ⟨0, rfl, Nat.zero_le _, HS2.out, HB2.out, Ext.refl _⟩
 case round =>
  obtain ⟨k, rfl, hk, hsx, hbx, hxr⟩ := hrel
  obtain ⟨wo, rfl⟩ : ∃ wo : World, wo = wr := ⟨_, rfl⟩
  have HSX := hI hsx
  have HBX := hI hbx
  have HXR := hI hxr
  obtain ⟨s0, sf⟩ := blk1 hsx
  obtain ⟨c0, c1, cf⟩ := blk2 hbx
  clear hsx hbx hxr
  by_cases hkn : k < pn
  case neg =>
   have t1 : decide ((k : Int) < (pn : Int)) = false := decide_eq_false (by omega)
   go_wp2_with fail
   refine bodyPost_ret (v := .tuple #[.int .i64 0, .int .i64 0, .int .i64 0]) (by simp [results, Tryz.results36, go_sem]) rfl ?_
   exact ⟨0, 0, 0, rfl, HX2.out.trans HXR.out⟩
  have hkl : k < pts.length := by have := HPN.out; omega
  have t1 : decide ((k : Int) < (pn : Int)) = true := decide_eq_true (by omega)
  obtain ⟨b, off, rfl, hpc⟩ := HPI.out.2 k hkl
  obtain ⟨pt, hpt⟩ : ∃ pt, pt = pts[k] := ⟨_, rfl⟩
  rw [<- hpt] at hpc
  have HPC := hI (fun W (hW : Ext w2 W) => hW.cell hpc)
  have c2 := HPC.out wo HXR.out
  obtain ⟨F, hF⟩ : ∃ F, F = inForce x pt := ⟨_, rfl⟩
  have HIP := hI (fun W (hW : Ext w W) => HIF.out pt W hW)
  have HFT := hI (HFI.out pt)
  rw [<- hF] at HIP HFT
  have HXW := hI (HX2.out.trans HXR.out)
  clear hpc hpt hF
  go_upto_region 7 with fail
  refine wp_region_grow (m := 11) [9, 10] (GrG wo) GrE (GrP (we7R b off pn pc k pt ca ea cn cc en ec F)) (by kernel_rfl) (by kernel_rfl) ((Ext.refl wo).drew) ?_ ?_ ?_
  ·intro i k v W W' hi hk hne hout h hE
   have hE : Ext W W' := hE
   have hi' := ltc11 hi
   clear hi hk hne hout
   rcases hi' with rfl | rfl | rfl | rfl | rfl | rfl | rfl | rfl | rfl | rfl | rfl
   ·exact h
   ·exact h
   ·exact h
   ·exact h
   ·exact h
   ·obtain ⟨fa, fc, e0, h⟩ := h
    exact ⟨fa, fc, e0, h.ext hE⟩
   ·obtain ⟨fa, fc, e0, h⟩ := h
    exact ⟨fa, fc, e0, h.ext hE⟩
   ·obtain ⟨fa, fc, e0, h⟩ := h
    exact ⟨fa, fc, e0, h.ext hE⟩
   ·exact h
   ·obtain ⟨fa, fc, e0, h⟩ := h
    exact ⟨fa, fc, e0, h.ext hE⟩
   exact h
  ·intro q op hq ho vs W hW hd ρ hρ
   have hq' := ltc11 hq
   clear hq
   have o3 : ρ (.tmp 3) = .pointer (some ⟨w.heap.size + 1, 0, none⟩) := hρ.out 3 rfl
   have o7 : ρ (.tmp 7) = .slice (some ⟨b, off, none⟩) pn pc := hρ.out 7 rfl
   have o8 : ρ (.tmp 8) = .int .i64 k := hρ.out 8 rfl
   have i1 := hρ.i 1 26
   have i2 := hρ.i 2 27
   have i3 := hρ.i 3 28
   have i0 := hρ.i 0 25
   have i4 := hρ.i 4 29
   have i5 := hρ.i 5 30
   have i6 := hρ.i 6 24
   have i7 := hρ.i 7 31
   have i8 := hρ.i 8 32
   have hc := hρ.const
   have hfn := hρ.func
   clear hρ
   have HW := hI (show Ext wo W from hW)
   rcases hq' with rfl | rfl | rfl | rfl | rfl | rfl | rfl | rfl | rfl | rfl | rfl
   ·cases ho
    clear hd
    have g0 := HW.out.cell c0
    have g1 := HW.out.cell c1
    unfold GivesOp
    go_simp
    exact ⟨Ext.refl W, rfl⟩
   ·cases ho
    clear hd
    unfold GivesOp
    go_simp
    exact ⟨Ext.refl W, rfl⟩
   ·cases ho
    clear hd
    unfold GivesOp
    go_simp
    exact ⟨Ext.refl W, rfl⟩
   ·cases ho
    have h1 : vs 1 = _ := hd ⟨1, .data⟩ (by simp) rfl
    rw [h1] at i1
    have h2 : vs 2 = _ := hd ⟨2, .data⟩ (by simp) rfl
    rw [h2] at i2
    clear hd
    unfold GivesOp
    go_simp
    exact ⟨Ext.refl W, rfl⟩
   ·cases ho
    have h3 : vs 3 = _ := hd ⟨3, .data⟩ (by simp) rfl
    rw [h3] at i3
    clear hd
    have g4 := HW.out.cell c2
    unfold GivesOp
    go_simp
    exact ⟨Ext.refl W, rfl⟩
   ·cases ho
    have h0 : vs 0 = _ := hd ⟨0, .data⟩ (by simp) rfl
    rw [h0] at i0
    have h4 : vs 4 = _ := hd ⟨4, .data⟩ (by simp) rfl
    rw [h4] at i4
    clear hd
    unfold GivesOp
    go_simp
    refine (HIP.out W (HXW.out.trans HW.out)).mono ?_
    rintro r w5 ⟨fa, fc, rfl, hi5, hx5⟩
    exact ⟨_, rfl, hx5, HW.out.trans hx5, fa, fc, rfl, hi5⟩
   ·cases ho
    obtain ⟨fa, fc, h5, hs5⟩ : ∃ (fa : OA) (fc : Nat), vs 5 = .tuple #[.slice fa F.1.length fc, .int .i64 F.2] /\ IsClas W F.1 fa F.1.length fc := hd ⟨5, .data⟩ (by simp) rfl
    have HS5 := hI hs5
    clear hs5
    rw [h5] at i5
    clear hd
    unfold GivesOp
    go_simp
    exact ⟨Ext.refl W, _, _, rfl, HS5.out⟩
   ·cases ho
    obtain ⟨fa, fc, h6, hs6⟩ : ∃ (fa : OA) (fc : Nat), vs 6 = .tuple #[.slice fa F.1.length fc, .int .i64 F.2] /\ IsClas W F.1 fa F.1.length fc := hd ⟨6, .data⟩ (by simp) rfl
    have HS6 := hI hs6
    clear hs6
    rw [h6] at i6
    clear hd
    unfold GivesOp
    go_simp
    exact ⟨Ext.refl W, fa, fc, rfl, HS6.out⟩
   ·cases ho
    obtain ⟨fa, fc, h6, hs6⟩ : ∃ (fa : OA) (fc : Nat), vs 6 = .tuple #[.slice fa F.1.length fc, .int .i64 F.2] /\ IsClas W F.1 fa F.1.length fc := hd ⟨6, .data⟩ (by simp) rfl
    have HS6 := hI hs6
    clear hs6
    rw [h6] at i6
    clear hd
    unfold GivesOp
    go_simp
    exact ⟨Ext.refl W, rfl⟩
   ·cases ho
    obtain ⟨fa, fc, h7, hs7⟩ : ∃ (fa : OA) (fc : Nat), vs 7 = .slice fa F.1.length fc /\ IsClas W F.1 fa F.1.length fc := hd ⟨7, .data⟩ (by simp) rfl
    have HS7 := hI hs7
    clear hs7
    rw [h7] at i7
    clear hd
    unfold GivesOp
    go_simp
    exact ⟨Ext.refl W, _, _, rfl, HS7.out⟩
   cases ho
   have h8 : vs 8 = _ := hd ⟨8, .data⟩ (by simp) rfl
   rw [h8] at i8
   clear hd
   unfold GivesOp
   go_simp
   exact ⟨Ext.refl W, rfl⟩
  intro vs W hW hR
  rw [if_pos (by decide +kernel)]
  obtain ⟨fa, fc, h9, hs9⟩ : ∃ (fa : OA) (fc : Nat), vs 9 = .slice fa F.1.length fc /\ IsClas W F.1 fa F.1.length fc := hR 9 (by simp) (by omega)
  have HS9 := hI hs9
  clear hs9
  have h10 : vs 10 = .int .i64 F.2 := hR 10 (by simp) (by omega)
  simp only [acts, dstAt, List.range, List.range.loop, List.foldl_cons, List.foldl_nil, h9, h10]
  go_simp
  have hW2 : Ext wo W := hW
  clear hR hW h9 h10
  have HW2 := hI hW2
  have HS3 := hI (HW2.out.blk HSX.out)
  have HB3 := hI (HW2.out.blk HBX.out)
  have HX3 := hI (HXR.out.trans HW2.out)
  clear hW2 s0 sf c0 c1 cf c2
  obtain ⟨s0, sf⟩ := blk1 HS3.out
  have c2 := HPC.out W HX3.out
  obtain ⟨er, her⟩ : ∃ er, er = F.2 := ⟨_, rfl⟩
  rw [<- her]
  by_cases hz : er = 0
  case neg =>
   have tz : (er != 0) = true := by simp [hz]
   clear hz her
   go_wp2_with fail
   refine bodyPost_ret (v := .tuple #[.int .i64 pt, .int .i64 0, .int .i64 er]) (by simp [results, Tryz.results36, go_sem]) rfl ?_
   exact ⟨_, _, _, rfl, HX2.out.trans HX3.out⟩
  have tz : (er != 0) = false := by simp [hz]
  clear hz her
  obtain ⟨CE, hCE⟩ : ∃ CE, CE = clausesErr s F.1 := ⟨_, rfl⟩
  have HC5 := hI (HCL.out F.1 fa fc W (HX2.out.trans HX3.out) HS9.out HFT.out)
  rw [<- hCE] at HC5
  unfold clsV at HC5
  clear hCE
  go_wp2_with fail
  refine HC5.out.mono ?_
  rintro r w5 ⟨rfl, hx5⟩
  have HX5 := hI (HX3.out.trans hx5)
  have HS5 := hI (hx5.blk HS3.out)
  have HB5 := hI (hx5.blk HB3.out)
  have c2 := HPC.out w5 HX5.out
  clear hx5 s0 sf
  by_cases hz : CE.2 = 0
  case neg =>
   have tz : (CE.2 != 0) = true := by simp [hz]
   clear hz
   go_wp2_with fail
   refine bodyPost_ret (v := .tuple #[.int .i64 pt, .int .i64 _, .int .i64 _]) (by simp [results, Tryz.results36, go_sem]; exact ⟨rfl, rfl⟩) rfl ?_
   exact ⟨_, _, _, rfl, HX2.out.trans HX5.out⟩
  have tz : (CE.2 != 0) = false := by simp [hz]
  clear hz
  go_wp2_with fail
  go_roundw
  case rel => exact ⟨k + 1, by go_num, by omega, HS5.out, HB5.out, HX5.out⟩
  case measure => simp [intOf]; omega
structure Rt where
 cur : Int
 frm : Int
 per : Int
def Rt.cells (r : Rt) : List Value := [.int .i64 r.cur, .int .i64 r.frm, .int .i64 r.per]
theorem Rt.len (r : Rt) : r.cells.length = 3 := rfl
def IsRts (w : World) (l : List Rt) (a : OA) (n c : Nat) : Prop := IsRows w 3 Rt.cells l a n c
theorem elemRt : ElemT 26 86 (.agg #[.int .i64 0, .int .i64 0, .int .i64 0]) 3 24 := ⟨by kernel_rfl, by kernel_rfl, rfl, by decide⟩
def RatQ (w0 : World) (bd : Nat) (M : ZN) (w : World) (e : Ending) (w' : World) : Prop := ∃ (l : List Rt) (a : OA) (c : Nat), e = .returned (.slice a l.length c) /\ l.length <= 9 /\ IsRts (mask w' M) l a l.length c /\ DeckAt w0 w' bd /\ Chg [bd] w w'
structure RtP (w0 w : World) (bd : Nat) (v : Value) (L : List Rt) (wr : World) : Prop where
 own : wr.ownsRow w.heap.size 86 3 v L.length (L.flatMap Rt.cells)
 deck : DeckAt w0 wr bd
 chg : Chg [bd] w wr
theorem rts_own {w : World} {M : ZN} {base : Nat} {v : Value} {l : List Rt} (h : w.ownsRow base 86 3 v l.length (l.flatMap Rt.cells)) (hM : ∀ k, v.ownBlock = some k -> k ∉ M) : ∃ a c, v = .slice a l.length c /\ IsRts (mask w M) l a l.length c := by
 obtain ⟨a, c, rfl, hr⟩ := IsRows.of_owns Rt.len h
 refine ⟨a, c, rfl, hr.1, hr.2.1, hr.2.2.1, fun i hi => ?_⟩
 obtain ⟨b, off, rfl, hc⟩ := hr.2.2.2 i hi
 refine ⟨b, off, rfl, fun j hj => ?_⟩
 rw [mask_cell, if_neg (hM _ rfl)]
 exact hc j hj
theorem own_snocRt {w : World} {base : Nat} {v : Value} {l : List Rt} {k : Nat} {c f p : Int} (hk : k = l.length) (h : w.ownsRow base 86 3 v (k + 1) (l.flatMap Rt.cells ++ (#[Value.int .i64 c, .int .i64 f, .int .i64 p] : Array Value).toList)) : w.ownsRow base 86 3 v (l ++ [Rt.mk c f p]).length ((l ++ [Rt.mk c f p]).flatMap Rt.cells) := by
 have : (l ++ [Rt.mk c f p]).length = k + 1 := by simp [hk]
 rw [this]
 simpa [Rt.cells] using h
theorem rates_calls {w0 w : World} {bd : Nat} (hd : DeckAt w0 w bd) (M : ZN) (hM : ∀ y ∈ M, y < w.heap.size) :
  Calls Tryz.prog 15 #[.pointer (some ⟨bd, 0, none⟩)] w (RatQ w0 bd M w) := by
 have hbw := hd.lt
 have HD := hI hd
 have HM := hI hM
 have HW0 := hI (show w0.heap.size <= w.heap.size by obtain ⟨_, _, _, _, _, _, _, _, hxw, _⟩ := hd; exact hxw.size)
 clear hM hd
 go_enter Tryz.func15, Tryz.ntmps15
 go_wp2_with fail
 go_loopw [3, 4] (fun v i wr => ∃ (C : Int) (L : List Rt), i = .int .i64 C /\ 1 <= C /\ C <= 4 /\ L.length <= 3 * (C - 1) /\ RtP w0 w bd v L wr) (fun _ i _ => (4 - intOf i).toNat)
 case atStart => exact ⟨1, [], rfl, by omega, by omega, by simp, ⟨⟨rfl, Or.inl ⟨rfl, rfl⟩⟩, HD.out, Chg.refl _ _⟩⟩
 case round =>
  obtain ⟨C, L, rfl, hc1, hc4, hll, hp⟩ := hrel
  obtain ⟨wo, rfl⟩ : ∃ wo : World, wo = wr := ⟨_, rfl⟩
  have HP := hI hp
  clear hp
  by_cases hcn : C <= 3
  case neg =>
   have t1 : decide (C <= 3) = false := decide_eq_false hcn
   obtain ⟨a', c', rfl, hii⟩ := rts_own (M := M) HP.out.own (fun z hz hm => by have := (HP.out.own.lt z hz).1; have := HM.out z hm; omega)
   have HII := hI hii
   clear hii
   obtain ⟨ln, hln⟩ : ∃ ln, ln = L.length := ⟨_, rfl⟩
   rw [<- hln] at HII hll ⊢
   have HLN := hI hln
   clear hln
   go_wp2_with fail
   go_ret
   exact ⟨L, a', c', by rw [<- HLN.out]; rfl, by rw [<- HLN.out]; omega, by rw [<- HLN.out]; exact HII.out, HP.out.deck, HP.out.chg⟩
  have t1 : decide (C <= 3) = true := decide_eq_true hcn
  go_wp2_with fail
  refine (next_calls HP.out.deck 3 (by omega) (by omega)).mono ?_
  rintro r w1 ⟨q, rfl, hq0, hq1, hd1, hc1'⟩
  have HP1 := hI (show RtP w0 w bd u3 L w1 from ⟨owns_chg HP.out.own hc1' (fun z hz hm => by have := (HP.out.own.lt z hz).1; simp only [List.mem_singleton] at hm; omega), hd1, HP.out.chg.then hc1'⟩)
  clear hd1 hc1' HP
  go_wp2_with fail
  go_loopw [3, 5, 6] (fun v f i wr => ∃ (F K : Int) (L : List Rt), f = .int .i64 F /\ i = .int .i64 K /\ 0 <= F /\ F <= 41 * (2 - K) /\ -1 <= K /\ K <= 2 /\ L.length + (K + 1) <= 3 * C /\ RtP w0 w bd v L wr) (fun _ _ i _ => (intOf i + 1).toNat)
  case atStart => exact ⟨0, q, L, rfl, rfl, by omega, by omega, by omega, by omega, by omega, HP1.out⟩
  case round =>
   obtain ⟨F, K, L, rfl, rfl, hf0, hf1, hk0, hk1, hll, hp⟩ := hrel
   obtain ⟨wq, rfl⟩ : ∃ wq : World, wq = wr := ⟨_, rfl⟩
   have HP := hI hp
   clear hp HP1
   by_cases hkp : 0 <= K
   case neg =>
    have t2 : decide (0 <= K) = false := decide_eq_false hkp
    go_wp2_with fail
    go_roundw
    case rel => exact ⟨C + 1, L, by go_num, by omega, by omega, by omega, HP.out⟩
    case measure => simp [intOf]; omega
   have t2 : decide (0 <= K) = true := decide_eq_true hkp
   obtain ⟨ln, hln⟩ : ∃ ln, ln = L.length := ⟨_, rfl⟩
   rw [<- hln] at hll
   have HLN := hI hln
   clear hln
   go_wp2_with fail
   refine (upto_calls HP.out.deck 4000000 (by omega) (by omega)).mono ?_
   rintro r w2 ⟨z, rfl, hz0, hz1, hd2, hc2⟩
   have HO2 := hI (show w2.ownsRow w.heap.size 86 3 u3 ln (L.flatMap Rt.cells) by rw [HLN.out]; exact owns_chg HP.out.own hc2 (fun z hz hm => by have := (HP.out.own.lt z hz).1; simp only [List.mem_singleton] at hm; omega))
   have HD2 := hI hd2
   have HC2 := hI (HP.out.chg.then hc2)
   have hsx := (HP.out.chg.then hc2).size
   have HRO := hI (show ∀ z ∈ rowOf u3, w.heap.size <= z /\ z < w2.heap.size from fun z hz => ⟨(HO2.out.lt z (mem_rowOf.1 hz)).1, (HO2.out.lt z (mem_rowOf.1 hz)).2⟩)
   clear hd2 hc2 HP
   go_wp2_with (at_builtin; refine wpList_append_at elemRt rfl _ _ rfl w.heap.size _ ln _ rfl HO2.out _ 1 1 rfl (by simp) rfl (by simp [Value.oneCell']) (by unfold maxLen; omega) (by omega) (by omega) ?_)
   intro v8 w8 hown8 hc8 hw8
   have HO8 := hI (own_snocRt HLN.out hown8)
   have HD8 := hI (HD2.out.chg hc8 (fun hm => by have := (HRO.out _ hm).1; omega) (fun y hy => by have := (HRO.out _ hy).1; have := HW0.out; omega))
   have HC8 := hI (HC2.out.trans hc8 (fun y hy => Or.inr (HRO.out _ hy).1))
   have HRO8 := hI (show ∀ z ∈ rowOf v8, w.heap.size <= z /\ z < w8.heap.size from fun z hz => ⟨(HO8.out.lt z (mem_rowOf.1 hz)).1, (HO8.out.lt z (mem_rowOf.1 hz)).2⟩)
   obtain ⟨a8, c8, hv8⟩ := owns_formG hown8
   subst hv8
   clear hown8 hc8 hw8
   go_wp2_with fail
   refine (next_calls HD8.out 40 (by omega) (by omega)).mono ?_
   rintro r w9 ⟨y, rfl, hy0, hy1, hd9, hc9⟩
   have HP9 := hI (show RtP w0 w bd _ _ w9 from ⟨owns_chg HO8.out hc9 (fun z hz hm => by have := (HRO8.out z (mem_rowOf.2 hz)).1; simp only [List.mem_singleton] at hm; omega), hd9, HC8.out.then hc9⟩)
   clear hd9 hc9
   go_wp2_with fail
   go_roundw
   case rel => exact ⟨F + 1 + y, K - 1, L ++ [⟨C, F, 1000 + z⟩], by go_num, by go_num, by omega, by omega, by omega, by omega, by rw [List.length_append, <- HLN.out]; simp; omega, HP9.out⟩
   case measure => simp [intOf]; omega
end Go.Proofs.YtefjomofjejklaaGreat
