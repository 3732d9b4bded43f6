/-
  Texts of the claim, joined: RCls, Clm, Wrd, RWrd, Ck1, IdxE.
-/
import Derived.Test.YtefjomofjejklaaGreatCc12
import Derived.Test.YtefjomofjejklaaGreatCc11
namespace Go.Proofs.YtefjomofjejklaaGreat
set_option maxRecDepth 100000
set_option maxHeartbeats 32000000
open Go.RowKit
theorem refExprB_size {e : Ex} (h : refExprB e = true) : e.size <= 100000 := by
 unfold refExprB refSize at h
 simp only [Bool.and_eq_true, decide_eq_true_eq] at h
 omega
theorem clauseB_cond {c : Cla} (h : clauseB c = true) : refExprB c.cond = true := by
 unfold clauseB at h
 simp only [Bool.and_eq_true] at h
 exact h.1.1.2
theorem claErr_valid {s : List Attr} {l : List Cla} {i : Nat} (h : claErr s l i = 0) (hi : i < l.length) : clauseB l[i] = true := by
 unfold claErr at h
 rw [getD_cla hi] at h
 cases hb : clauseB l[i]
 ·rw [hb] at h; simp at h
 rfl
theorem cls_bad {s : List Attr} {l : List Cla} (h : schemaErr s ≠ 0) : clausesErr s l = (0, schemaErr s) := by unfold clausesErr; rw [if_pos h]
theorem cls_many {s : List Attr} {l : List Cla} (h : schemaErr s = 0) (hn : 100 < l.length) : clausesErr s l = (0, 4) := by unfold clausesErr; rw [if_neg (by simp [h]), if_pos hn]
theorem cls_hit {s : List Attr} {l : List Cla} (h : schemaErr s = 0) (hn : ¬ 100 < l.length) {k : Nat} (hk : k < l.length) (h0 : ∀ j, j < k -> claErr s l j = 0) (h1 : claErr s l k ≠ 0) : clausesErr s l = (k, claErr s l k) := by
 unfold clausesErr
 have := firstI_hit h1 h0 l.length hk
 rw [if_neg (by simp [h]), if_neg hn, this, if_pos h1]
theorem cls_cycle {s : List Attr} {l : List Cla} (h : schemaErr s = 0) (hn : ¬ 100 < l.length) (h0 : ∀ j, j < l.length -> claErr s l j = 0) (hs : ¬ Sorts (l.map Cla.dfn)) : clausesErr s l = (0, 10) := by
 unfold clausesErr
 rw [if_neg (by simp [h]), if_neg hn, firstI_zero _ h0, if_neg (by simp), if_pos hs]
theorem cls_large {s : List Attr} {l : List Cla} (h : schemaErr s = 0) (hn : ¬ 100 < l.length) (h0 : ∀ j, j < l.length -> claErr s l j = 0) (hs : Sorts (l.map Cla.dfn)) {k : Nat} (hk : k < l.length) (g0 : ∀ j, j < k -> claLarge l j = 0) (g1 : claLarge l k = 4) : clausesErr s l = (k, 4) := by
 unfold clausesErr
 rw [if_neg (by simp [h]), if_neg hn, firstI_zero _ h0, if_neg (by simp), if_neg (by simp [hs]), firstI_hit (by rw [g1]; decide) g0 _ hk, g1]
theorem cls_good {s : List Attr} {l : List Cla} (h : schemaErr s = 0) (hn : ¬ 100 < l.length) (h0 : ∀ j, j < l.length -> claErr s l j = 0) (hs : Sorts (l.map Cla.dfn)) (g0 : ∀ j, j < l.length -> claLarge l j = 0) : clausesErr s l = (0, 0) := by
 unfold clausesErr
 rw [if_neg (by simp [h]), if_neg hn, firstI_zero _ h0, if_neg (by simp), if_neg (by simp [hs]), firstI_zero _ g0]
def clsV (r : Nat × Int) : Value := .tuple #[.int .i64 (r.1 : Nat), .int .i64 r.2]
theorem givesE_cls {r : Nat × Int} {i : Nat} {e : Int} {w w' : World} (h : r = (i, e)) (hx : Ext w w') : GivesE (clsV r) w (.returned (.tuple #[.int .i64 (i : Nat), .int .i64 e])) w' := by subst h; exact ⟨rfl, hx⟩
def c14V (b off n c k : Nat) (sa : OA) (sn sc : Nat) (nm : BA) (q : Nat) (ab : Bool) : Nat -> Value -> World -> Prop
 | 0, u, _ => u = .agg #[.slice sa sn sc]
 | 1, u, _ => u = .slice (some ⟨b, off, none⟩) n c
 | 2, u, _ => u = .int .i64 k
 | 3, u, _ => u = .pointer (some ⟨b, off + k * 10, none⟩)
 | 4, u, _ => u = .pointer (some ⟨b, off + k * 10 + 1, none⟩)
 | 5, u, _ => u = .string nm
 | 6, u, _ => u = .tuple #[.int .i64 q, .bool ab]
 | 7, u, _ => u = .tuple #[.int .i64 q, .bool ab]
 | 8, u, _ => u = .int .i64 q
 | 9, u, _ => u = .bool ab
 | 10, u, _ => u = .int .i64 q
 | _, u, _ => u = .bool ab
def Cla.okk (c : Cla) : Prop := c.ok /\ wbN c.unl < 1000000000000000
theorem Cla.okk.fit {c : Cla} (h : c.okk) : c.fit := h.1.fit
theorem wbN_of_cnt : (l : List Wb) -> cntBacks l <= 40 -> wbN l <= cntBacks l
 | [], _ => by simp [wbN]
 | .mk n c u :: r, h => by
  rw [cntBacks] at h ⊢
  have h1 := wbN_of_cnt u (by omega)
  have h2 := wbN_of_cnt r (by omega)
  rw [wbN]; omega
theorem wbOk_of : (d : Nat) -> (l : List Wb) -> backsB d l = true -> wbFits l -> wbOk l
 | _, [], _, _ => by unfold wbOk; trivial
 | d, .mk n c u :: r, h, hf => by
  rw [backsB] at h
  simp only [Bool.and_eq_true] at h
  rw [wbFits] at hf
  have := refExprB_size h.1.1.2
  unfold wbOk
  exact ⟨hf.1, hf.2.1, hf.2.2.1, by omega, wbOk_of _ u h.1.2 hf.2.2.2.2.2.1, wbOk_of d r h.2 hf.2.2.2.2.2.2⟩
theorem Cla.fit.okk {c : Cla} (h : c.fit) (hc : clauseB c = true) : c.okk := by
 have hx := refExprB_size (clauseB_cond hc)
 have key : wbOk c.unl /\ wbN c.unl <= 40 := by
  unfold clauseB at hc
  simp only [Bool.and_eq_true, Bool.or_eq_true, decide_eq_true_eq] at hc
  rcases hc.1.2 with h0 | ⟨⟨_, h1⟩, h2⟩
  ·rw [List.eq_nil_of_length_eq_zero h0]
   exact ⟨by unfold wbOk; trivial, by simp [wbN]⟩
  exact ⟨wbOk_of 16 _ h2 h.2.2.2.2.2, Nat.le_trans (wbN_of_cnt _ h1) h1⟩
 exact ⟨⟨h.1, h.2.1, h.2.2.1, by omega, key.1, by omega⟩, by omega⟩
theorem rClauses_calls (s : List Attr) (l : List Cla) (sv : Value) (a : OA) (n c : Nat) (w : World) (hs : IsSchema w s sv) (hf : ∀ x ∈ s, x.fits) (hsl : s.length <= 1000000000000000) (hl : IsClas w l a n c) (hn : n <= 1000000000000000) (hok : ∀ x ∈ l, x.fit) :
  Calls Tryz.prog 22 #[sv, .slice a n c] w (GivesE (clsV (clausesErr s l)) w) := by
 obtain ⟨sa, sn, sc, rfl, hsn⟩ := hs.slice
 have HS := hI hs
 have HL := hI hl
 have HN := hI hl.len
 have HF := hI hf
 have HOK := hI hok
 obtain ⟨R, hR⟩ : ∃ R, R = clausesErr s l := ⟨_, rfl⟩
 rw [<- hR]
 have HR := hI hR
 clear hs hl hf hok hR hsn
 go_enter Tryz.func22, Tryz.ntmps22
 go_upto_region 1 with fail
 obtain ⟨wa, hwa⟩ : ∃ wa, wa = w.alloc (.cells #[.slice sa sn sc] 25) := ⟨_, rfl⟩
 have hxa : Ext w wa := by rw [hwa]; exact (Ext.refl _).alloc _
 have hb : wa.heap[w.heap.size]? = some (.cells #[.slice sa sn sc] 25 (0, 0)) := by rw [hwa]; exact alloc_new w _
 have HXA := hI hxa
 have HBA := hI hb
 obtain ⟨d0, df⟩ := blk1 hb
 rw [<- hwa]
 clear hxa hb hwa
 go_wp2_with fail
 refine (rSchema_calls s _ wa (HS.out.ext HXA.out) HF.out hsl).mono ?_
 rintro r w1 ⟨rfl, hx1⟩
 have HX1 := hI (HXA.out.trans hx1)
 have HB1 := hI (hx1.blk HBA.out)
 clear hx1 d0 df
 by_cases hse : schemaErr s = 0
 case neg =>
  have tz : (schemaErr s != 0) = true := by simp [hse]
  have HQ := hI (HR.out.trans (cls_bad hse))
  go_wp2_with fail
  go_ret2
  exact givesE_cls HQ.out HX1.out
 have tz : (schemaErr s != 0) = false := by simp [hse]
 have HSE := hI hse
 clear hse
 by_cases hm : 100 < n
 ·have tm : decide ((100 : Int) < (n : Int)) = true := decide_eq_true (by omega)
  have HQ := hI (HR.out.trans (cls_many HSE.out (by have := HN.out; omega)))
  go_wp2_with fail
  go_ret2
  exact givesE_cls HQ.out HX1.out
 have tm : decide ((100 : Int) < (n : Int)) = false := decide_eq_false (by omega)
 have HM := hI (show ¬ 100 < l.length by have := HN.out; omega)
 go_wp2_with fail
 go_loopw [7] (fun t wr => ∃ k : Nat, t = .int .i64 k /\ k <= n /\ (∀ j, j < k -> claErr s l j = 0) /\ wr.heap[w.heap.size]? = some (.cells #[.slice sa sn sc] 25 (0, 0)) /\ Ext w wr) (fun t _ => n - (intOf t).toNat)
 case atStart => exact ⟨0, rfl, by omega, fun j h => by omega, HB1.out, HX1.out⟩
 case round =>
  obtain ⟨k, rfl, hk, hno, hbx, hxr⟩ := hrel
  have HNO := hI hno
  have HBX := hI hbx
  have HXR := hI hxr
  obtain ⟨d0, df⟩ := blk1 hbx
  clear hno hbx hxr HB1 HX1
  by_cases hkn : k < n
  ·have hkl : k < l.length := by have := HN.out; omega
   have t1 : decide ((k : Int) < (n : Int)) = true := decide_eq_true (by omega)
   obtain ⟨b, off, v, rfl, hcla, hrow⟩ := (HL.out.ext HXR.out).at hkl
   obtain ⟨c0, c1, c2, c3, c4, c5, c6, c7, c8, c9⟩ := hrow.ten
   have HCLA := hI hcla
   have HROW := hI hrow
   have HOKF := hI (HOK.out _ (List.getElem_mem hkl))
   have ti0 : (0 : Int) <= (k : Int) := by omega
   have ti1 : (k : Int) < (n : Int) := by omega
   have HCE := hI (show claErr s l k = if clauseB l[k] = false then 5 else if (findAt l l[k].name).getD 0 < k then 8 else if (attrAt s l[k].name).isSome then 8 else if nodesErr s l l[k].cond ≠ 0 then nodesErr s l l[k].cond else backsErr s l l[k].unl by unfold claErr; rw [getD_cla hkl])
   have HHIT := hI (fun (e : Int) (h : claErr s l k = e) (h0 : e ≠ 0) => HR.out.trans (by rw [cls_hit HSE.out HM.out hkl HNO.out (by rw [h]; exact h0), h]))
   have HNAM := hI hcla.2.1
   clear hcla hrow
   go_upto_region 9 with fail
   go_wp2_with fail
   refine (rclause_fit l[k] v wr HCLA.out HOKF.out).mono ?_
   rintro r w3 ⟨rfl, hx3⟩
   have HX3 := hI (HXR.out.trans hx3)
   have HB3 := hI (hx3.blk HBX.out)
   have HC3 := hI (HCLA.out.mono hx3.sub)
   have HR3 := hI (HROW.out.mono hx3.sub)
   clear hx3 d0 df c0 c1 c2 c3 c4 c5 c6 c7 c8 c9 HBX HCLA HROW
   obtain ⟨d0, df⟩ := blk1 HB3.out
   obtain ⟨c0, c1, c2, c3, c4, c5, c6, c7, c8, c9⟩ := HR3.out.ten
   cases hcb : clauseB l[k]
   ·have HQ := hI (HHIT.out 5 (by rw [HCE.out, hcb]; rfl) (by decide))
    clear hcb
    go_wp2_with fail
    go_ret2
    exact givesE_cls HQ.out HX3.out
   have HOKK := hI (HOKF.out.okk hcb)
   rw [hcb] at HCE
   simp only [Bool.true_eq_false, if_false] at HCE
   clear hcb
   go_wp2_with fail
   rw [HNAM.out]
   refine (rFind_calls l _ n c l[k].name w3 (HL.out.ext HX3.out) hn).mono ?_
   rintro r w4 ⟨rfl, rfl⟩
   unfold optV
   obtain ⟨F, hF⟩ : ∃ F, F = (findAt l l[k].name).getD 0 := ⟨_, rfl⟩
   rw [<- hF] at HCE ⊢
   have hFl : F <= l.length := by
    rw [hF]
    cases hfa : findAt l l[k].name with
    | none => simp
    | some q =>
     unfold findAt at hfa
     rw [List.findIdx?_eq_some_iff_getElem] at hfa
     obtain ⟨h1, _⟩ := hfa
     simp only [Option.getD_some]; omega
   generalize (findAt l l[k].name).isSome = fb
   clear hF
   by_cases hfk : F < k
   ·have tf : decide (F < k) = true := decide_eq_true hfk
    have HQ := hI (HHIT.out 8 (by rw [HCE.out, if_pos hfk]) (by decide))
    go_wp2_with fail
    go_ret2
    exact givesE_cls HQ.out HX3.out
   have tf : decide (F < k) = false := decide_eq_false hfk
   rw [if_neg hfk] at HCE
   clear hFl
   go_wp2_with fail
   have HIX := hI (fun (W : World) (hW : Ext w3 W) => rIndex_calls s _ l[k].name W (HS.out.ext (HX3.out.trans hW)) hsl)
   obtain ⟨q, hq⟩ : ∃ q, q = (attrAt s l[k].name).getD 0 := ⟨_, rfl⟩
   obtain ⟨ab, hab⟩ : ∃ ab, ab = (attrAt s l[k].name).isSome := ⟨_, rfl⟩
   have HIV := hI (show optV (attrAt s l[k].name) = .tuple #[.int .i64 (q : Nat), .bool ab] by rw [hq, hab]; rfl)
   rw [<- hab] at HCE
   rw [HNAM.out] at c1
   obtain ⟨nm, hnm⟩ : ∃ nm, nm = l[k].name := ⟨_, rfl⟩
   rw [<- hnm] at c1 HIX HIV
   clear hq hab hnm
   go_upto_region 14 with fail
   refine wp_region_grow (m := 12) [11] (GrG w3) GrE (GrP (c14V b off n c k sa sn sc nm q ab)) (by kernel_rfl) (by kernel_rfl) ((Ext.refl w3).drew) ?_ ?_ ?_
   ·intro i k v W W' hi hk hne hout h hE
    have hE : Ext W W' := hE
    have hi' := ltc12 hi
    clear hi hk hne hout
    rcases hi' with rfl | rfl | rfl | rfl | rfl | rfl | rfl | rfl | rfl | rfl | rfl | rfl
    ·exact h
    ·exact h
    ·exact h
    ·exact h
    ·exact h
    ·exact h
    ·exact h
    ·exact h
    ·exact h
    ·exact h
    ·exact h
    exact h
   ·intro q op hq ho vs W hW hd ρ hρ
    have hq' := ltc12 hq
    clear hq
    have o2 : ρ (.tmp 2) = .pointer (some ⟨w.heap.size, 0, none⟩) := hρ.out 2 rfl
    have o1 : ρ (.tmp 1) = .slice (some ⟨b, off, none⟩) n c := hρ.out 1 rfl
    have o7 : ρ (.tmp 7) = .int .i64 k := hρ.out 7 rfl
    have i1 := hρ.i 1 54
    have i2 := hρ.i 2 55
    have i3 := hρ.i 3 56
    have i4 := hρ.i 4 57
    have i0 := hρ.i 0 53
    have i5 := hρ.i 5 58
    have i6 := hρ.i 6 59
    have i7 := hρ.i 7 52
    have i8 := hρ.i 8 60
    have i9 := hρ.i 9 61
    have hc := hρ.const
    have hfn := hρ.func
    clear hρ
    have HW := hI (show Ext w3 W from hW)
    rcases hq' with rfl | rfl | rfl | rfl | rfl | rfl | rfl | rfl | rfl | rfl | rfl | rfl
    ·cases ho
     clear hd
     have g0 := HW.out.cell d0
     unfold GivesOp
     go_simp
     exact ⟨Ext.refl W, rfl⟩
    ·cases ho
     clear hd
     unfold GivesOp
     go_simp
     exact ⟨Ext.refl W, rfl⟩
    ·cases ho
     clear hd
     unfold GivesOp
     go_simp
     exact ⟨Ext.refl W, rfl⟩
    ·cases ho
     have h1 : vs 1 = _ := hd ⟨1, .data⟩ (by simp) rfl
     rw [h1] at i1
     have h2 : vs 2 = _ := hd ⟨2, .data⟩ (by simp) rfl
     rw [h2] at i2
     clear hd
     unfold GivesOp
     go_simp
     exact ⟨Ext.refl W, rfl⟩
    ·cases ho
     have h3 : vs 3 = _ := hd ⟨3, .data⟩ (by simp) rfl
     rw [h3] at i3
     clear hd
     unfold GivesOp
     go_simp
     exact ⟨Ext.refl W, rfl⟩
    ·cases ho
     have h4 : vs 4 = _ := hd ⟨4, .data⟩ (by simp) rfl
     rw [h4] at i4
     clear hd
     have g1 := HW.out.cell c1
     unfold GivesOp
     go_simp
     exact ⟨Ext.refl W, rfl⟩
    ·cases ho
     have h0 : vs 0 = _ := hd ⟨0, .data⟩ (by simp) rfl
     rw [h0] at i0
     have h5 : vs 5 = _ := hd ⟨5, .data⟩ (by simp) rfl
     rw [h5] at i5
     clear hd
     unfold GivesOp
     go_simp
     refine (HIX.out W HW.out).mono ?_
     rw [HIV.out]
     rintro r w5 ⟨rfl, hx5⟩
     exact ⟨_, rfl, hx5, HW.out.trans hx5, rfl⟩
    ·cases ho
     have h6 : vs 6 = _ := hd ⟨6, .data⟩ (by simp) rfl
     rw [h6] at i6
     clear hd
     unfold GivesOp
     go_simp
     exact ⟨Ext.refl W, rfl⟩
    ·cases ho
     have h7 : vs 7 = _ := hd ⟨7, .data⟩ (by simp) rfl
     rw [h7] at i7
     clear hd
     unfold GivesOp
     go_simp
     exact ⟨Ext.refl W, rfl⟩
    ·cases ho
     have h7 : vs 7 = _ := hd ⟨7, .data⟩ (by simp) rfl
     rw [h7] at i7
     clear hd
     unfold GivesOp
     go_simp
     exact ⟨Ext.refl W, rfl⟩
    ·cases ho
     have h8 : vs 8 = _ := hd ⟨8, .data⟩ (by simp) rfl
     rw [h8] at i8
     clear hd
     unfold GivesOp
     go_simp
     exact ⟨Ext.refl W, rfl⟩
    cases ho
    have h9 : vs 9 = _ := hd ⟨9, .data⟩ (by simp) rfl
    rw [h9] at i9
    clear hd
    unfold GivesOp
    go_simp
    exact ⟨Ext.refl W, rfl⟩
   intro vs W hW hR
   rw [if_pos (by decide +kernel)]
   have h11 : vs 11 = .bool ab := hR 11 (by simp) (by omega)
   simp only [acts, dstAt, List.range, List.range.loop, List.foldl_cons, List.foldl_nil, h11]
   go_simp
   have hW2 : Ext w3 W := hW
   clear hR hW h11
   have hx6 := hW2
   clear hW2
   have HX6 := hI (HX3.out.trans hx6)
   have HB6 := hI (hx6.blk HB3.out)
   have HR6 := hI (HR3.out.mono hx6.sub)
   have HC6 := hI (HC3.out.mono hx6.sub)
   obtain ⟨w6, hw6⟩ : ∃ w6, w6 = W := ⟨_, rfl⟩
   rw [<- hw6] at HX6 HB6 HR6 HC6 ⊢
   clear hw6 hx6 HB3 HR3 HC3 d0 df c0 c1 c2 c3 c4 c5 c6 c7 c8 c9
   obtain ⟨d0, df⟩ := blk1 HB6.out
   obtain ⟨c0, c1, c2, c3, c4, c5, c6, c7, c8, c9⟩ := HR6.out.ten
   cases hat : ab
   case true =>
    have HQ := hI (HHIT.out 8 (by rw [HCE.out, hat]; rfl) (by decide))
    clear hat
    go_wp2_with fail
    go_ret2
    exact givesE_cls HQ.out HX6.out
   rw [hat] at HCE
   simp only [Bool.false_eq_true, if_false] at HCE
   clear hat
   go_wp2_with fail
   go_still_tail 7, (by kernel_rfl)
   change wpList _ _ _ _ _ w6.drew
   have hx7 : Ext w6 w6.drew := (Ext.refl w6).drew
   generalize w6.drew = w7 at hx7 ⊢
   have HX7 := hI (HX6.out.trans hx7)
   have HB7 := hI (hx7.blk HB6.out)
   have HR7 := hI (HR6.out.mono hx7.sub)
   have HC7 := hI (HC6.out.mono hx7.sub)
   clear hx7 d0 df c0 c1 c2 c3 c4 c5 c6 c7 c8 c9 HB6 HR6 HC6
   go_wp2_with fail
   refine (rnodesErr_calls s l HF.out hsl _ n c hn 1000000000000000 l[k].cond _ _ w7 HOKK.out.1.2.2.2.1 (by omega) HOKK.out.1.2.2.1 (HS.out.ext HX7.out) (HL.out.ext HX7.out) HC7.out.2.2.1).mono ?_
   rintro r w8 ⟨rfl, hx8⟩
   have HX8 := hI (HX7.out.trans hx8)
   have HB8 := hI (hx8.blk HB7.out)
   have HR8 := hI (HR7.out.mono hx8.sub)
   have HC8 := hI (HC7.out.mono hx8.sub)
   clear hx8 HB7 HR7 HC7
   obtain ⟨d0, df⟩ := blk1 HB8.out
   obtain ⟨c0, c1, c2, c3, c4, c5, c6, c7, c8, c9⟩ := HR8.out.ten
   obtain ⟨E1, hE1⟩ : ∃ E1, E1 = nodesErr s l l[k].cond := ⟨_, rfl⟩
   rw [<- hE1] at HCE ⊢
   clear hE1
   by_cases hz : E1 = 0
   case neg =>
    have ty : (E1 != 0) = true := by simp [hz]
    have HQ := hI (HHIT.out E1 (by rw [HCE.out, if_pos hz]) hz)
    clear hz
    go_wp2_with fail
    go_ret2
    exact givesE_cls HQ.out HX8.out
   subst hz
   simp only [ne_eq, not_true_eq_false, if_false] at HCE
   have ty : ((0 : Int) != 0) = false := rfl
   go_wp2_with fail
   go_still_tail 7, (by kernel_rfl)
   change wpList _ _ _ _ _ w8.drew
   have hx9 : Ext w8 w8.drew := (Ext.refl w8).drew
   generalize w8.drew = w9 at hx9 ⊢
   have HX9 := hI (HX8.out.trans hx9)
   have HB9 := hI (hx9.blk HB8.out)
   have HR9 := hI (HR8.out.mono hx9.sub)
   have HC9 := hI (HC8.out.mono hx9.sub)
   clear hx9 d0 df c0 c1 c2 c3 c4 c5 c6 c7 c8 c9 HB8 HR8 HC8
   go_wp2_with fail
   refine (rbackErr_calls s l HF.out hsl _ n c hn 1000000000000000 l[k].unl _ _ _ _ w9 HOKK.out.2 (by omega) HOKK.out.1.2.2.2.2.1 (HS.out.ext HX9.out) (HL.out.ext HX9.out) HC9.out.2.2.2.2.2.2.1 HC9.out.2.2.2.1).mono ?_
   rintro r wA ⟨rfl, hxA⟩
   have HXA2 := hI (HX9.out.trans hxA)
   have HBA2 := hI (hxA.blk HB9.out)
   clear hxA HB9 HR9 HC9
   obtain ⟨E2, hE2⟩ : ∃ E2, E2 = backsErr s l l[k].unl := ⟨_, rfl⟩
   rw [<- hE2] at HCE ⊢
   clear hE2
   by_cases hz2 : E2 = 0
   case neg =>
    have tz2 : (E2 != 0) = true := by simp [hz2]
    have HQ := hI (HHIT.out E2 HCE.out hz2)
    clear hz2
    go_wp2_with fail
    go_ret2
    exact givesE_cls HQ.out HXA2.out
   subst hz2
   go_wp2_with fail
   go_roundw
   case rel =>
    refine ⟨k + 1, by go_num, by omega, fun j hj => ?_, HBA2.out, HXA2.out⟩
    by_cases e' : j = k
    ·subst e'; exact HCE.out
    exact HNO.out j (by omega)
   case measure => simp [intOf]; omega
  have t1 : decide ((k : Int) < (n : Int)) = false := decide_eq_false (by omega)
  have HNA := hI (show ∀ j, j < l.length -> claErr s l j = 0 from fun j hj => HNO.out j (by have := HN.out; omega))
  have HSZ := hI (show ∀ x ∈ l, x.cond.size <= 100000 by
   intro x hx
   obtain ⟨j, hj, rfl⟩ := List.mem_iff_getElem.1 hx
   exact refExprB_size (clauseB_cond (claErr_valid (HNA.out j hj) hj)))
  clear HNO HBX d0 df
  go_wp2_with fail
  refine (rOrder_calls l a n c wr (HL.out.ext HXR.out) (by omega) HSZ.out).mono ?_
  rintro r w3 ⟨hx3, ⟨hso, oa, on, oc, rfl⟩ | ⟨hso, rfl⟩⟩
  ·have HX3 := hI (HXR.out.trans hx3)
   have HSO := hI hso
   clear hx3 hso
   go_wp2_with fail
   go_loopw [16] (fun t wr => ∃ k : Nat, t = .int .i64 k /\ k <= n /\ (∀ j, j < k -> claLarge l j = 0) /\ Ext w wr) (fun t _ => n - (intOf t).toNat)
   case atStart => exact ⟨0, rfl, by omega, fun j h => by omega, HX3.out⟩
   case round =>
    obtain ⟨k2, rfl, hk2, hno, hxr⟩ := hrel
    have HNO := hI hno
    have HXR2 := hI hxr
    clear hno hxr HX3 HXR
    by_cases hkn2 : k2 < n
    ·have hkl : k2 < l.length := by have := HN.out; omega
     have t2 : decide ((k2 : Int) < (n : Int)) = true := decide_eq_true (by omega)
     obtain ⟨b, off, v, rfl, hcla, hrow⟩ := (HL.out.ext HXR2.out).at hkl
     obtain ⟨c0, c1, c2, c3, c4, c5, c6, c7, c8, c9⟩ := hrow.ten
     have HCLA := hI hcla
     have HOKK := hI ((HOK.out _ (List.getElem_mem hkl)).okk (claErr_valid (HNA.out k2 hkl) hkl))
     have ti0 : (0 : Int) <= (k2 : Int) := by omega
     have ti1 : (k2 : Int) < (n : Int) := by omega
     have HLG := hI (show claLarge l k2 = if 2000 < expanded l l[k2].cond \/ backsLarge l l[k2].unl = true then 4 else 0 by unfold claLarge; rw [getD_cla hkl])
     have HHIT := hI (fun (h : claLarge l k2 = 4) => HR.out.trans (cls_large HSE.out HM.out HNA.out HSO.out hkl HNO.out h))
     obtain ⟨E, hE⟩ : ∃ E, E = expanded l l[k2].cond := ⟨_, rfl⟩
     have HEE := hI hE
     rw [<- hE] at HLG
     clear hcla hrow hE
     go_wp2_with fail
     refine (rExpanded_calls l _ n c (by omega) (fun x hx => by have := HSZ.out x hx; omega) l[k2].cond _ wr HOKK.out.1.2.2.2.1 (HL.out.ext HXR2.out) HCLA.out.2.2.1).mono ?_
     rw [<- HEE.out]
     rintro r w5 ⟨rfl, hx5⟩
     have HX5 := hI (HXR2.out.trans hx5)
     have c85 := hx5.cell c8
     have HC5 := hI (HCLA.out.mono hx5.sub)
     clear hx5 c0 c1 c2 c3 c4 c5 c6 c7 c8 c9
     by_cases hz : 2000 < E
     ·have tz : decide ((2000 : Int) < (E : Int)) = true := decide_eq_true (by omega)
      have HQ := hI (HHIT.out (by rw [HLG.out, if_pos (Or.inl hz)]))
      go_wp2_with fail
      go_ret2
      exact givesE_cls HQ.out HX5.out
     have tz : decide ((2000 : Int) < (E : Int)) = false := decide_eq_false (by omega)
     have HL2 := hI (show claLarge l k2 = if backsLarge l l[k2].unl = true then 4 else 0 by rw [HLG.out]; simp only [hz, false_or])
     go_wp2_with fail
     refine (rbackLarge_calls l _ n c (by omega) (fun x hx => by have := HSZ.out x hx; omega) 1000000000000000 l[k2].unl _ _ _ w5 HOKK.out.2 (by omega) HOKK.out.1.2.2.2.2.1 (HL.out.ext HX5.out) HC5.out.2.2.2.2.2.2.1 HC5.out.2.2.2.1).mono ?_
     rintro r w6 ⟨rfl, hx6⟩
     have HX6 := hI (HX5.out.trans hx6)
     clear hx6 c85
     cases hb : backsLarge l l[k2].unl
     ·have HZ := hI (show claLarge l k2 = 0 by rw [HL2.out, hb]; rfl)
      clear hb
      go_wp2_with fail
      go_roundw
      case rel =>
       refine ⟨k2 + 1, by go_num, by omega, fun j hj => ?_, HX6.out⟩
       by_cases e' : j = k2
       ·subst e'; exact HZ.out
       exact HNO.out j (by omega)
      case measure => simp [intOf]; omega
     have HQ := hI (HHIT.out (by rw [HL2.out, hb]; rfl))
     clear hb
     go_wp2_with fail
     go_ret2
     exact givesE_cls HQ.out HX6.out
    have t2 : decide ((k2 : Int) < (n : Int)) = false := decide_eq_false (by omega)
    have HQ := hI (HR.out.trans (cls_good HSE.out HM.out HNA.out HSO.out fun j hj => HNO.out j (by have := HN.out; omega)))
    go_wp2_with fail
    go_ret2
    exact givesE_cls (i := 0) HQ.out HXR2.out
  have HX3 := hI (HXR.out.trans hx3)
  have HQ := hI (HR.out.trans (cls_cycle HSE.out HM.out HNA.out hso))
  clear hx3 hso
  go_wp2_with fail
  go_ret2
  exact givesE_cls (i := 0) HQ.out HX3.out
structure It where
 facts : ZI
 value : Int
 sum : Int
 gross : Int
structure Ev where
 number : Int
 known : Int
 kind : Int
 items : List It
 cur : Int
 amount : Int
 target : Int
structure Clm where
 id : Int
 policy : Int
 risk : Int
 hour : Int
 peril : Int
 area : Int
 events : List Ev
def ev0 : Ev := ⟨0, 0, 0, [], 0, 0, 0⟩
def inB (lo hi n : Int) : Bool := decide (lo <= n) && decide (n <= hi)
def moneyB (n : Int) : Bool := inB 0 1073741824 n
def itErr (s : List Attr) (x : It) : Int := if factsB s x.facts = false then 16 else if (moneyB x.value && moneyB x.sum && moneyB x.gross) = false then 1 else 0
def itsErr (s : List Attr) (l : List It) : Int := (firstI (fun i => itErr s (l.getD i ⟨[], 0, 0, 0⟩)) l.length).2
def cashErr (cur amount : Int) : Int := if inB 0 15 cur = false then 15 else if inB 1 1073741824 amount = false then 1 else 0
def orderB (l : List Ev) (x : Ev) : Bool := match l.getLast? with | none => false | some y => decide (x.number <= y.number) || decide (x.known < y.known)
def fieldB (x : Ev) : Bool :=
 (decide (0 < x.items.length) && !(x.kind == 1 || x.kind == 2)) || ((x.cur != 0 || x.amount != 0) && !(x.kind == 3 || x.kind == 4)) || (x.target != 0 && !(x.kind == 7))
def partErr (s : List Attr) (l : List Ev) (x : Ev) : Int :=
 if x.kind = 1 \/ x.kind = 2 then (if 64 < x.items.length then 4 else itsErr s x.items)
 else if x.kind = 3 \/ x.kind = 4 then cashErr x.cur x.amount
 else if x.kind = 7 then (if l.any (fun y => y.number == x.target) = true then 0 else 7)
 else 0
def evErr (s : List Attr) (l : List Ev) (x : Ev) : Int :=
 if inB 1 1048576 x.number = false \/ inB 0 876599 x.known = false then 1
 else if orderB l x = true then 13
 else if inB 1 7 x.kind = false then 11
 else if fieldB x = true then 20
 else partErr s l x
def evsErr (s : List Attr) (l : List Ev) : Int := (firstI (fun i => evErr s (l.take i) (l.getD i ev0)) l.length).2
def idsB (c : Clm) : Bool := inB 1 1048576 c.id && inB 1 1048576 c.policy && inB 1 1048576 c.risk && inB 0 876599 c.hour && inB 0 15 c.peril && inB 0 15 c.area
def clmErr (s : List Attr) (c : Clm) : Int :=
 if schemaErr s ≠ 0 then schemaErr s else if idsB c = false then 1 else if 64 < c.events.length then 4 else evsErr s c.events
def isVoid (x : Ev) : Bool := x.kind == 7
def soundEvs : ZI -> List Ev -> Bool
 | _, [] => true
 | b, x :: r => !((isVoid x && !(b.any (· == x.target))) || b.any (· == x.number)) && soundEvs (x.number :: b) r
def effGo (hour : Int) : ZI -> List Ev -> List Ev
 | _, [] => []
 | v, x :: r => if hour < x.known \/ v.any (· == x.number) = true then effGo hour v r else x :: effGo hour (if isVoid x then x.target :: v else v) r
def effL (l : List Ev) (hour : Int) : List Ev := if soundEvs [] l then (effGo hour [] l.reverse).reverse else []
theorem blk4c {w : World} {b : Nat} {v0 v1 v2 v3 : Value} {t : TypeId} (h : w.heap[b]? = some (.cells #[v0, v1, v2, v3] t (0, 0))) :
  w.cell? ⟨b, 0, none⟩ = some v0 /\ w.cell? ⟨b, 1, none⟩ = some v1 /\ w.cell? ⟨b, 2, none⟩ = some v2 /\ w.cell? ⟨b, 3, none⟩ = some v3 /\ (∀ o, w.frozen? ⟨b, o, none⟩ = false) :=
 ⟨blk_cell h 0, blk_cell h 1, blk_cell h 2, blk_cell h 3, fun o => blk_free h o⟩
theorem blk7 {w : World} {b : Nat} {v0 v1 v2 v3 v4 v5 v6 : Value} {t : TypeId} (h : w.heap[b]? = some (.cells #[v0, v1, v2, v3, v4, v5, v6] t (0, 0))) :
  w.cell? ⟨b, 0, none⟩ = some v0 /\ w.cell? ⟨b, 1, none⟩ = some v1 /\ w.cell? ⟨b, 2, none⟩ = some v2 /\ w.cell? ⟨b, 3, none⟩ = some v3 /\ w.cell? ⟨b, 4, none⟩ = some v4 /\ w.cell? ⟨b, 5, none⟩ = some v5 /\ w.cell? ⟨b, 6, none⟩ = some v6 /\ (∀ o, w.frozen? ⟨b, o, none⟩ = false) :=
 ⟨blk_cell h 0, blk_cell h 1, blk_cell h 2, blk_cell h 3, blk_cell h 4, blk_cell h 5, blk_cell h 6, fun o => blk_free h o⟩
structure ItV where
 x : It
 a : OA
 n : Nat
 c : Nat
def ItV.cells (v : ItV) : List Value := [.slice v.a v.n v.c, .int .i64 v.x.value, .int .i64 v.x.sum, .int .i64 v.x.gross]
theorem ItV.len (v : ItV) : v.cells.length = 4 := rfl
def IsIts (w : World) (l : List It) (a : OA) (n c : Nat) : Prop := ∃ vs : List ItV, IsRows w 4 ItV.cells vs a n c /\ l = vs.map (·.x) /\ ∀ v ∈ vs, IsIntF w v.x.facts v.a v.n
theorem IsIts.mono {w w' : World} {l : List It} {a : OA} {n c : Nat} (h : IsIts w l a n c) (hs : Sub w w') : IsIts w' l a n c := by
 obtain ⟨vs, h1, h2, h3⟩ := h
 exact ⟨vs, h1.mono hs, h2, fun v hv => (h3 v hv).mono hs⟩
theorem IsIts.ext {w w' : World} {l : List It} {a : OA} {n c : Nat} (h : IsIts w l a n c) (he : Ext w w') : IsIts w' l a n c := h.mono he.sub
theorem IsIts.len {w : World} {l : List It} {a : OA} {n c : Nat} (h : IsIts w l a n c) : n = l.length := by
 obtain ⟨vs, h1, h2, _⟩ := h
 rw [h2, h1.1, List.length_map]
theorem IsIts.nil (w : World) : IsIts w [] none 0 0 := ⟨[], ⟨rfl, Nat.le_refl _, Or.inl ⟨rfl, rfl⟩, fun i h => by simp at h⟩, rfl, fun v h => by simp at h⟩
theorem IsIts.at {w : World} {l : List It} {a : OA} {n c : Nat} (h : IsIts w l a n c) {k : Nat} (hk : k < l.length) : ∃ (b off : Nat) (v : ItV), a = some ⟨b, off, none⟩ /\ v.x = l[k] /\ IsIntF w l[k].facts v.a v.n /\
  w.cell? ⟨b, off + k * 4, none⟩ = some (.slice v.a v.n v.c) /\ w.cell? ⟨b, off + k * 4 + 1, none⟩ = some (.int .i64 l[k].value) /\ w.cell? ⟨b, off + k * 4 + 2, none⟩ = some (.int .i64 l[k].sum) /\ w.cell? ⟨b, off + k * 4 + 3, none⟩ = some (.int .i64 l[k].gross) := by
 obtain ⟨vs, h1, rfl, h3⟩ := h
 have hk' : k < vs.length := by simpa using hk
 obtain ⟨b, off, e, hc⟩ := h1.2.2.2 k hk'
 refine ⟨b, off, vs[k], e, by simp, by simpa using h3 _ (List.getElem_mem hk'), ?_, ?_, ?_, ?_⟩
 ·simpa [ItV.cells] using hc 0 (by simp [ItV.len])
 ·simpa [ItV.cells] using hc 1 (by simp [ItV.len])
 ·simpa [ItV.cells] using hc 2 (by simp [ItV.len])
 simpa [ItV.cells] using hc 3 (by simp [ItV.len])
structure EvV where
 x : Ev
 a : OA
 n : Nat
 c : Nat
def EvV.cells (v : EvV) : List Value := [.int .i64 v.x.number, .int .i64 v.x.known, .int .i64 v.x.kind, .slice v.a v.n v.c, .int .i64 v.x.cur, .int .i64 v.x.amount, .int .i64 v.x.target]
theorem EvV.len (v : EvV) : v.cells.length = 7 := rfl
def EvV.val (v : EvV) : Value := .agg #[.int .i64 v.x.number, .int .i64 v.x.known, .int .i64 v.x.kind, .slice v.a v.n v.c, .int .i64 v.x.cur, .int .i64 v.x.amount, .int .i64 v.x.target]
def IsEvs (w : World) (l : List Ev) (a : OA) (n c : Nat) : Prop := ∃ vs : List EvV, IsRows w 7 EvV.cells vs a n c /\ l = vs.map (·.x) /\ ∀ v ∈ vs, IsIts w v.x.items v.a v.n v.c
theorem IsEvs.mono {w w' : World} {l : List Ev} {a : OA} {n c : Nat} (h : IsEvs w l a n c) (hs : Sub w w') : IsEvs w' l a n c := by
 obtain ⟨vs, h1, h2, h3⟩ := h
 exact ⟨vs, h1.mono hs, h2, fun v hv => (h3 v hv).mono hs⟩
theorem IsEvs.ext {w w' : World} {l : List Ev} {a : OA} {n c : Nat} (h : IsEvs w l a n c) (he : Ext w w') : IsEvs w' l a n c := h.mono he.sub
theorem IsEvs.len {w : World} {l : List Ev} {a : OA} {n c : Nat} (h : IsEvs w l a n c) : n = l.length := by
 obtain ⟨vs, h1, h2, _⟩ := h
 rw [h2, h1.1, List.length_map]
theorem IsEvs.nil (w : World) : IsEvs w [] none 0 0 := ⟨[], ⟨rfl, Nat.le_refl _, Or.inl ⟨rfl, rfl⟩, fun i h => by simp at h⟩, rfl, fun v h => by simp at h⟩
theorem IsEvs.at {w : World} {l : List Ev} {a : OA} {n c : Nat} (h : IsEvs w l a n c) {k : Nat} (hk : k < l.length) : ∃ (b off : Nat) (v : EvV), a = some ⟨b, off, none⟩ /\ v.x = l[k] /\ IsIts w l[k].items v.a v.n v.c /\ RowAt w b (off + k * 7) v.cells := by
 obtain ⟨vs, h1, rfl, h3⟩ := h
 have hk' : k < vs.length := by simpa using hk
 obtain ⟨b, off, e, hc⟩ := h1.2.2.2 k hk'
 exact ⟨b, off, vs[k], e, by simp, by simpa using h3 _ (List.getElem_mem hk'), hc⟩
theorem RowAt.seven {w : World} {b off : Nat} {v : EvV} (h : RowAt w b off v.cells) : w.cell? ⟨b, off, none⟩ = some (.int .i64 v.x.number) /\ w.cell? ⟨b, off + 1, none⟩ = some (.int .i64 v.x.known) /\ w.cell? ⟨b, off + 2, none⟩ = some (.int .i64 v.x.kind) /\
  w.cell? ⟨b, off + 3, none⟩ = some (.slice v.a v.n v.c) /\ w.cell? ⟨b, off + 4, none⟩ = some (.int .i64 v.x.cur) /\ w.cell? ⟨b, off + 5, none⟩ = some (.int .i64 v.x.amount) /\ w.cell? ⟨b, off + 6, none⟩ = some (.int .i64 v.x.target) :=
 ⟨h 0 (by simp [EvV.len]), h 1 (by simp [EvV.len]), h 2 (by simp [EvV.len]), h 3 (by simp [EvV.len]), h 4 (by simp [EvV.len]), h 5 (by simp [EvV.len]), h 6 (by simp [EvV.len])⟩
theorem IsEvs.take {w : World} {l : List Ev} {a : OA} {n c : Nat} (h : IsEvs w l a n c) {k : Nat} (hk : k <= n) : IsEvs w (l.take k) a k c := by
 obtain ⟨vs, ⟨g1, g2, g3, g4⟩, rfl, h3⟩ := h
 refine ⟨vs.take k, ⟨by simp; omega, by omega, g3, fun i hi => ?_⟩, by simp, fun v hv => h3 v (List.mem_of_mem_take hv)⟩
 have hi' : i < vs.length := by simp at hi; omega
 obtain ⟨b, off, e, hc⟩ := g4 i hi'
 refine ⟨b, off, e, fun j hj => ?_⟩
 simp only [List.getElem_take] at hj ⊢
 exact hc j hj
structure Edm where
 frm : Int
 upto : Int
 remove : ZB
 clauses : List Cla
structure Wrd where
 clauses : List Cla
 ends : List Edm
def periodB (f t : Int) : Bool := decide (0 <= f) && decide (f < t) && decide (t <= 876600)
def containsB (f t h : Int) : Bool := periodB f t && decide (f <= h) && decide (h < t)
def hoursB (h : Int) : Bool := decide (0 <= h) && decide (h <= 876599)
def clsB (l : List Cla) : Bool := decide (l.length <= 40) && l.all clauseB
def edmB (x : Edm) : Bool := periodB x.frm x.upto && decide (x.upto <= 876599) && decide (x.remove.length <= 40) && x.remove.all nameB && decide x.remove.Nodup && clsB x.clauses
def wordingB (x : Wrd) : Bool := decide (x.ends.length <= 12) && clsB x.clauses && x.ends.all edmB
def hasName (l : List Cla) (s : BA) : Bool := (findAt l s).isSome
def addAll : List Cla -> List Cla -> Option (List Cla)
 | l, [] => some l
 | l, c :: r => if hasName l c.name = true then none else addAll (l ++ [c]) r
def keptOf (rm : ZB) (l : List Cla) : List Cla := l.filter fun c => !(rm.any fun y => decide (y = c.name))
def stepRes : Option (List Cla) -> List Cla × Int
 | none => ([], 8)
 | some m => if 100 < m.length then ([], 4) else (m, 0)
def edmStep (h : Int) (l : List Cla) (x : Edm) : List Cla × Int :=
 if containsB x.frm x.upto h = false then (l, 0)
 else if x.remove.all (hasName l) = false then ([], 7)
 else stepRes (addAll (keptOf x.remove l) x.clauses)
def forceGo (h : Int) : List Cla -> List Edm -> List Cla × Int
 | l, [] => (l, 0)
 | l, x :: r => if (edmStep h l x).2 ≠ 0 then ([], (edmStep h l x).2) else forceGo h (edmStep h l x).1 r
def startRes (h : Int) (r : List Edm) : Option (List Cla) -> List Cla × Int
 | none => ([], 8)
 | some l => forceGo h l r
def inForce (x : Wrd) (h : Int) : List Cla × Int :=
 if wordingB x = false then ([], 5) else if hoursB h = false then ([], 1) else startRes h x.ends (addAll [] x.clauses)
def addPt : ZI -> Int -> ZI
 | [], n => [n]
 | x :: r, n => if n < x then n :: x :: r else if n = x then x :: r else x :: addPt r n
def pointsGo : ZI -> List Edm -> ZI
 | l, [] => l
 | l, x :: r => pointsGo (addPt (addPt l x.frm) x.upto) r
def points (x : Wrd) : ZI := if wordingB x = false then [] else pointsGo [0] x.ends
structure EdmV where
 x : Edm
 ra : OA
 rn : Nat
 rc : Nat
 ca : OA
 cn : Nat
 cc : Nat
def EdmV.cells (v : EdmV) : List Value := [.int .i64 v.x.frm, .int .i64 v.x.upto, .slice v.ra v.rn v.rc, .slice v.ca v.cn v.cc]
theorem EdmV.len (v : EdmV) : v.cells.length = 4 := rfl
def IsEdm (w : World) (v : EdmV) : Prop := IsStrs w v.x.remove v.ra v.rn v.rc /\ IsClas w v.x.clauses v.ca v.cn v.cc
theorem IsEdm.mono {w w' : World} {v : EdmV} (h : IsEdm w v) (hs : Sub w w') : IsEdm w' v := ⟨h.1.mono hs, h.2.mono hs⟩
def IsEdms (w : World) (l : List Edm) (a : OA) (n c : Nat) : Prop := ∃ vs : List EdmV, IsRows w 4 EdmV.cells vs a n c /\ l = vs.map (·.x) /\ ∀ v ∈ vs, IsEdm w v
theorem IsEdms.mono {w w' : World} {l : List Edm} {a : OA} {n c : Nat} (h : IsEdms w l a n c) (hs : Sub w w') : IsEdms w' l a n c := by
 obtain ⟨vs, h1, h2, h3⟩ := h
 exact ⟨vs, h1.mono hs, h2, fun v hv => (h3 v hv).mono hs⟩
theorem IsEdms.ext {w w' : World} {l : List Edm} {a : OA} {n c : Nat} (h : IsEdms w l a n c) (he : Ext w w') : IsEdms w' l a n c := h.mono he.sub
theorem IsEdms.len {w : World} {l : List Edm} {a : OA} {n c : Nat} (h : IsEdms w l a n c) : n = l.length := by
 obtain ⟨vs, h1, h2, _⟩ := h
 rw [h2, h1.1, List.length_map]
theorem IsEdms.at {w : World} {l : List Edm} {a : OA} {n c : Nat} (h : IsEdms w l a n c) {k : Nat} (hk : k < l.length) : ∃ (b off : Nat) (v : EdmV), a = some ⟨b, off, none⟩ /\ v.x = l[k] /\ IsEdm w v /\
  w.cell? ⟨b, off + k * 4, none⟩ = some (.int .i64 v.x.frm) /\ w.cell? ⟨b, off + k * 4 + 1, none⟩ = some (.int .i64 v.x.upto) /\ w.cell? ⟨b, off + k * 4 + 2, none⟩ = some (.slice v.ra v.rn v.rc) /\ w.cell? ⟨b, off + k * 4 + 3, none⟩ = some (.slice v.ca v.cn v.cc) := by
 obtain ⟨vs, h1, rfl, h3⟩ := h
 have hk' : k < vs.length := by simpa using hk
 obtain ⟨b, off, e, hc⟩ := h1.2.2.2 k hk'
 refine ⟨b, off, vs[k], e, by simp, h3 _ (List.getElem_mem hk'), ?_, ?_, ?_, ?_⟩
 ·simpa [EdmV.cells] using hc 0 (by simp [EdmV.len])
 ·simpa [EdmV.cells] using hc 1 (by simp [EdmV.len])
 ·simpa [EdmV.cells] using hc 2 (by simp [EdmV.len])
 simpa [EdmV.cells] using hc 3 (by simp [EdmV.len])
def IsWrd (w : World) (x : Wrd) (v : Value) : Prop := ∃ ca cn cc ea en ec, v = .agg #[.slice ca cn cc, .slice ea en ec] /\ IsClas w x.clauses ca cn cc /\ IsEdms w x.ends ea en ec
theorem IsWrd.mono {w w' : World} {x : Wrd} {v : Value} (h : IsWrd w x v) (hs : Sub w w') : IsWrd w' x v := by
 obtain ⟨ca, cn, cc, ea, en, ec, rfl, h1, h2⟩ := h
 exact ⟨ca, cn, cc, ea, en, ec, rfl, h1.mono hs, h2.mono hs⟩
theorem IsWrd.ext {w w' : World} {x : Wrd} {v : Value} (h : IsWrd w x v) (he : Ext w w') : IsWrd w' x v := h.mono he.sub
def fitClas (l : List Cla) : Prop := l.length <= 1000000000000000 /\ ∀ c ∈ l, c.fit
def Edm.fit (x : Edm) : Prop := x.remove.length <= 1000000000000000 /\ (∀ y ∈ x.remove, y.size <= 1000000000000000) /\ fitClas x.clauses
def Wrd.fit (x : Wrd) : Prop := fitClas x.clauses /\ x.ends.length <= 1000000000000000 /\ ∀ y ∈ x.ends, y.fit
theorem rPeriod_calls (f t : Int) (w : World) : Calls Tryz.prog 76 #[.agg #[.int .i64 f, .int .i64 t]] w (GivesE (.bool (periodB f t)) w) := by
 obtain ⟨R, hR⟩ : ∃ R, R = periodB f t := ⟨_, rfl⟩
 rw [<- hR]
 have HR := hI (show R = (decide (0 <= f) && decide (f < t) && decide (t <= 876600)) from hR)
 clear hR
 go_enter Tryz.func76, Tryz.ntmps76
 go_wp2_with fail
 all_goals (go_ret; exact givesE_b (by rw [HR.out]; simp_all <;> omega) (((Ext.refl w).alloc _)))
theorem rContains_calls (f t h : Int) (w : World) : Calls Tryz.prog 43 #[.agg #[.int .i64 f, .int .i64 t], .int .i64 h] w (GivesE (.bool (containsB f t h)) w) := by
 obtain ⟨R, hR⟩ : ∃ R, R = containsB f t h := ⟨_, rfl⟩
 rw [<- hR]
 have HR := hI (show R = (periodB f t && decide (f <= h) && decide (h < t)) from hR)
 clear hR
 obtain ⟨wa, hwa⟩ : ∃ wa, wa = w.alloc (.cells #[.int .i64 f, .int .i64 t] 89) := ⟨_, rfl⟩
 have HXA := hI (show Ext w wa by rw [hwa]; exact (Ext.refl _).alloc _)
 have HBA := hI (show wa.heap[w.heap.size]? = some (.cells #[.int .i64 f, .int .i64 t] 89 (0, 0)) by rw [hwa]; exact alloc_new w _)
 obtain ⟨c0, c1, cf⟩ := blk2 HBA.out
 go_enter Tryz.func43, Tryz.ntmps43
 go_upto_region 1 with fail
 rw [<- hwa]
 clear hwa
 go_wp2_with fail
 refine (rPeriod_calls f t wa).mono ?_
 rintro r w1 ⟨rfl, hx1⟩
 have HX1 := hI (HXA.out.trans hx1)
 have HB1 := hI (hx1.blk HBA.out)
 clear hx1 c0 c1 cf
 obtain ⟨c0, c1, cf⟩ := blk2 HB1.out
 generalize periodB f t = P at *
 cases P
 ·go_wp2_with fail
  all_goals (go_ret; exact givesE_b (by rw [HR.out]; rfl) HX1.out)
 go_wp2_with fail
 all_goals (go_ret; exact givesE_b (by rw [HR.out]; simp_all <;> omega) HX1.out)
theorem rHours_calls (h : Int) (w : World) : Calls Tryz.prog 20 #[.int .i64 h] w (GivesE (.bool (hoursB h)) w) := by
 obtain ⟨R, hR⟩ : ∃ R, R = hoursB h := ⟨_, rfl⟩
 rw [<- hR]
 have HR := hI (show R = (decide (0 <= h) && decide (h <= 876599)) from hR)
 clear hR
 go_enter Tryz.func20, Tryz.ntmps20
 go_wp2_with fail
 all_goals (go_ret; exact givesE_b (by rw [HR.out]; simp_all <;> omega) (Ext.refl w))
theorem rclauses_calls (l : List Cla) (a : OA) (n c : Nat) (w : World) (hl : IsClas w l a n c) (hok : fitClas l) :
  Calls Tryz.prog 75 #[.slice a n c] w (GivesE (.bool (clsB l)) w) := by
 have HL := hI hl
 have HN := hI hl.len
 have HOK := hI hok.2
 have hn : n <= 1000000000000000 := by have := hl.len; have := hok.1; omega
 obtain ⟨R, hR⟩ : ∃ R, R = clsB l := ⟨_, rfl⟩
 rw [<- hR]
 have HR := hI (show R = (decide (l.length <= 40) && l.all clauseB) from hR)
 clear hl hok hR
 by_cases h40 : 40 < n
 ·have t0 : decide ((40 : Int) < (n : Int)) = true := decide_eq_true (by omega)
  have HF := hI (show R = false by rw [HR.out, decide_eq_false (by have := HN.out; omega)]; rfl)
  go_enter Tryz.func75, Tryz.ntmps75
  go_wp2_with fail
  go_ret
  exact givesE_b (by rw [HF.out]) (Ext.refl _)
 have t0 : decide ((40 : Int) < (n : Int)) = false := decide_eq_false (by omega)
 have HR2 := hI (show R = l.all clauseB by rw [HR.out, decide_eq_true (by have := HN.out; omega)]; rfl)
 clear HR
 go_enter Tryz.func75, Tryz.ntmps75
 go_wp2_with fail
 go_loopw [3] (fun t wr => ∃ k : Nat, t = .int .i64 k /\ k <= n /\ (∀ j (h : j < l.length), j < k -> clauseB l[j] = true) /\ Ext w wr) (fun t _ => n - (intOf t).toNat)
 case atStart => exact ⟨0, rfl, by omega, fun j _ h => by omega, Ext.refl _⟩
 case round =>
  obtain ⟨k, rfl, hk, hall, hxr⟩ := hrel
  have HALL := hI hall
  have HXR := hI hxr
  clear hall hxr
  by_cases hkn : k < n
  ·have hkl : k < l.length := by have := HN.out; omega
   have t1 : decide ((k : Int) < (n : Int)) = true := decide_eq_true (by omega)
   obtain ⟨b, off, v, rfl, hcla, hrow⟩ := (HL.out.ext HXR.out).at hkl
   obtain ⟨c0, c1, c2, c3, c4, c5, c6, c7, c8, c9⟩ := hrow.ten
   have HC := hI (fun (W : World) (hW : Ext wr W) => rclause_fit l[k] v W (hcla.mono hW.sub) (HOK.out _ (List.getElem_mem hkl)))
   clear hcla hrow
   cases hcb : clauseB l[k]
   ·have HCB := hI hcb
    have HF := hI (show R = false by
     rw [HR2.out, List.all_eq_false]
     exact ⟨l[k], List.getElem_mem hkl, by rw [hcb]; simp⟩)
    clear hcb
    go_wp2_with fail
    refine (HC.out _ (Ext.refl wr)).mono ?_
    rintro r w3 ⟨rfl, hx3⟩
    rw [HCB.out]
    have HX3 := hI (HXR.out.trans hx3)
    clear hx3 c0 c1 c2 c3 c4 c5 c6 c7 c8 c9
    go_wp2_with fail
    go_ret
    exact givesE_b (by rw [HF.out]) HX3.out
   have HCB := hI hcb
   clear hcb
   go_wp2_with fail
   refine (HC.out _ (Ext.refl wr)).mono ?_
   rintro r w3 ⟨rfl, hx3⟩
   rw [HCB.out]
   have HX3 := hI (HXR.out.trans hx3)
   clear hx3 c0 c1 c2 c3 c4 c5 c6 c7 c8 c9
   go_wp2_with fail
   go_roundw
   case rel =>
    refine ⟨k + 1, by go_num, by omega, fun j hj hjk => ?_, HX3.out⟩
    by_cases e : j = k
    ·subst e; exact HCB.out
    exact HALL.out j hj (by omega)
   case measure => simp [intOf]; omega
  have t1 : decide ((k : Int) < (n : Int)) = false := decide_eq_false (by omega)
  have HF := hI (show R = true by
   rw [HR2.out, List.all_eq_true]
   intro y hy
   obtain ⟨j, hj, rfl⟩ := List.mem_iff_getElem.1 hy
   exact HALL.out j hj (by have := HN.out; omega))
  go_wp2_with fail
  go_ret
  exact givesE_b (by rw [HF.out]) HXR.out
theorem edm_bad {l : List Edm} {k : Nat} (hk : k < l.length) (h : edmB l[k] = false) : l.all edmB = false := by
 rw [List.all_eq_false]
 exact ⟨l[k], List.getElem_mem hk, by rw [h]; simp⟩
theorem rWording_calls (x : Wrd) (v : Value) (w : World) (hw : IsWrd w x v) (hfit : x.fit) : Calls Tryz.prog 41 #[v] w (GivesE (.bool (wordingB x)) w) := by
 obtain ⟨ca, cn, cc, ea, en, ec, rfl, hcl, hed⟩ := hw
 have HE := hI hed
 have HEN := hI hed.len
 have HFT := hI hfit.2.2
 have hen : en <= 1000000000000000 := by have := hed.len; have := hfit.2.1; omega
 have HC := hI (fun W (hW : Ext w W) => rclauses_calls x.clauses ca cn cc W (hcl.ext hW) hfit.1)
 obtain ⟨R, hR⟩ : ∃ R, R = wordingB x := ⟨_, rfl⟩
 rw [<- hR]
 have HR := hI (show R = (decide (x.ends.length <= 12) && clsB x.clauses && x.ends.all edmB) from hR)
 clear hcl hed hfit hR
 obtain ⟨wa, hwa⟩ : ∃ wa, wa = w.alloc (.cells #[.slice ca cn cc, .slice ea en ec] 30) := ⟨_, rfl⟩
 have HXA := hI (show Ext w wa by rw [hwa]; exact (Ext.refl _).alloc _)
 have HBA := hI (show wa.heap[w.heap.size]? = some (.cells #[.slice ca cn cc, .slice ea en ec] 30 (0, 0)) by rw [hwa]; exact alloc_new w _)
 obtain ⟨c0, c1, cf⟩ := blk2 HBA.out
 go_enter Tryz.func41, Tryz.ntmps41
 go_upto_region 1 with fail
 rw [<- hwa]
 clear hwa
 by_cases h12 : 12 < en
 ·have t0 : decide ((12 : Int) < (en : Int)) = true := decide_eq_true (by omega)
  have HF := hI (show R = false by rw [HR.out, decide_eq_false (by have := HEN.out; omega)]; rfl)
  go_wp2_with fail
  go_ret
  exact givesE_b (by rw [HF.out]) HXA.out
 have t0 : decide ((12 : Int) < (en : Int)) = false := decide_eq_false (by omega)
 go_wp2_with fail
 refine (HC.out wa HXA.out).mono ?_
 rintro r w1 ⟨rfl, hx1⟩
 have HX1 := hI (HXA.out.trans hx1)
 have HB1 := hI (hx1.blk HBA.out)
 clear hx1 c0 c1 cf HC
 cases hcb : clsB x.clauses
 ·have HF := hI (show R = false by rw [HR.out, hcb]; simp)
  clear hcb
  go_wp2_with fail
  go_ret
  exact givesE_b (by rw [HF.out]) HX1.out
 have HR2 := hI (show R = x.ends.all edmB by rw [HR.out, hcb, decide_eq_true (by have := HEN.out; omega)]; rfl)
 clear hcb HR
 go_wp2_with fail
 go_loopw [3] (fun t wr => ∃ k : Nat, t = .int .i64 k /\ k <= en /\ (∀ j (h : j < x.ends.length), j < k -> edmB x.ends[j] = true) /\ wr.heap[w.heap.size]? = some (.cells #[.slice ca cn cc, .slice ea en ec] 30 (0, 0)) /\ Ext w wr) (fun t _ => en - (intOf t).toNat)
 case atStart => exact ⟨0, rfl, by omega, fun j _ h => by omega, HB1.out, HX1.out⟩
 case round =>
  obtain ⟨k, rfl, hk, hall, hbx, hxr⟩ := hrel
  obtain ⟨wo, rfl⟩ : ∃ wo : World, wo = wr := ⟨_, rfl⟩
  have HALL := hI hall
  have HBX := hI hbx
  have HXR := hI hxr
  obtain ⟨b0, b1, bf⟩ := blk2 hbx
  clear hall hbx hxr
  by_cases hkn : k < en
  case neg =>
   have t1 : decide ((k : Int) < (en : Int)) = false := decide_eq_false (by omega)
   have HF := hI (show R = true by
    rw [HR2.out, List.all_eq_true]
    intro y hy
    obtain ⟨j, hj, rfl⟩ := List.mem_iff_getElem.1 hy
    exact HALL.out j hj (by have := HEN.out; omega))
   go_wp2_with fail
   go_ret
   exact givesE_b (by rw [HF.out]) HXR.out
  have hkl : k < x.ends.length := by have := HEN.out; omega
  have t1 : decide ((k : Int) < (en : Int)) = true := decide_eq_true (by omega)
  obtain ⟨b, off, v, rfl, hvx, hedm, e0, e1, e2, e3⟩ := (HE.out.ext HXR.out).at hkl
  obtain ⟨fr, hfr⟩ : ∃ fr, fr = v.x.frm := ⟨_, rfl⟩
  obtain ⟨tt, htt⟩ : ∃ tt, tt = v.x.upto := ⟨_, rfl⟩
  obtain ⟨ra, hra⟩ : ∃ ra, ra = v.ra := ⟨_, rfl⟩
  obtain ⟨rn, hrn⟩ : ∃ rn, rn = v.rn := ⟨_, rfl⟩
  obtain ⟨rc, hrc⟩ : ∃ rc, rc = v.rc := ⟨_, rfl⟩
  obtain ⟨da, hda⟩ : ∃ da, da = v.ca := ⟨_, rfl⟩
  obtain ⟨dn, hdn⟩ : ∃ dn, dn = v.cn := ⟨_, rfl⟩
  obtain ⟨dc, hdc⟩ : ∃ dc, dc = v.cc := ⟨_, rfl⟩
  have hvf : v.x.fit := by rw [hvx]; exact HFT.out _ (List.getElem_mem hkl)
  have hst := hedm.1
  have hcs := hedm.2
  rw [<- hra, <- hrn, <- hrc] at hst
  rw [<- hda, <- hdn, <- hdc] at hcs
  rw [<- hfr] at e0
  rw [<- htt] at e1
  rw [<- hra, <- hrn, <- hrc] at e2
  rw [<- hda, <- hdn, <- hdc] at e3
  have HNM := hI (fun W (hW : Ext wo W) => names_calls v.x.remove ra rn rc W (hst.ext hW) (by have := hst.1; have := hvf.1; omega) hvf.2.1)
  have HDI := hI (fun W (hW : Ext wo W) => distinct_calls v.x.remove ra rn rc W (hst.ext hW) (by have := hst.1; have := hvf.1; omega))
  have HCL := hI (fun W (hW : Ext wo W) => rclauses_calls v.x.clauses da dn dc W (hcs.ext hW) hvf.2.2)
  have HPV := hI (fun W => rPeriod_calls fr tt W)
  obtain ⟨P, hP⟩ : ∃ P, P = periodB fr tt := ⟨_, rfl⟩
  obtain ⟨NM, hNM⟩ : ∃ NM, NM = v.x.remove.all nameB := ⟨_, rfl⟩
  obtain ⟨DI, hDI⟩ : ∃ DI, DI = decide v.x.remove.Nodup := ⟨_, rfl⟩
  obtain ⟨CL, hCL⟩ : ∃ CL, CL = clsB v.x.clauses := ⟨_, rfl⟩
  have HEB := hI (show edmB x.ends[k] = (P && decide (tt <= 876599) && decide (rn <= 40) && NM && DI && CL) by
   rw [<- hvx, hP, hNM, hDI, hCL, hfr, htt, hst.1]; rfl)
  have HBAD := hI (fun h : edmB x.ends[k] = false => HR2.out.trans (edm_bad hkl h))
  rw [<- hP] at HPV
  rw [<- hNM] at HNM
  rw [<- hDI] at HDI
  rw [<- hCL] at HCL
  have hrn2 : rn <= 1000000000000000 := by have := hst.1; have := hvf.1; omega
  clear hP hNM hDI hCL hfr htt hra hrn hrc hda hdn hdc hst hcs hvf hedm hvx
  obtain ⟨wb, hwb⟩ : ∃ wb, wb = wo.alloc (.cells #[.int .i64 fr, .int .i64 tt, .slice ra rn rc, .slice da dn dc] 93) := ⟨_, rfl⟩
  have HXB := hI (show Ext wo wb by rw [hwb]; exact (Ext.refl _).alloc _)
  have HBB := hI (show wb.heap[wo.heap.size]? = some (.cells #[.int .i64 fr, .int .i64 tt, .slice ra rn rc, .slice da dn dc] 93 (0, 0)) by rw [hwb]; exact alloc_new wo _)
  have HBX2 := hI (HXB.out.blk HBX.out)
  obtain ⟨g0, g1, g2, g3, gf⟩ := blk4c HBB.out
  have hltb := blk_lt HBB.out
  go_upto_region 7 with fail
  rw [<- hwb]
  clear hwb b0 b1 bf e0 e1 e2 e3
  go_wp2_with fail
  refine (HPV.out wb).mono ?_
  rintro r w2 ⟨rfl, hx2⟩
  have HX2 := hI (HXB.out.trans hx2)
  have HB2 := hI (hx2.blk HBB.out)
  have HBX3 := hI (hx2.blk HBX2.out)
  clear hx2 g0 g1 g2 g3 gf hltb HBB HBX2
  obtain ⟨g0, g1, g2, g3, gf⟩ := blk4c HB2.out
  have hltb := blk_lt HB2.out
  cases P
  ·have HF := hI (HBAD.out (by rw [HEB.out]; simp))
   go_wp2_with fail
   go_ret
   exact givesE_b (by rw [HF.out]) (HXR.out.trans HX2.out)
  by_cases hto : 876599 < tt
  ·have t2 : decide ((876599 : Int) < tt) = true := decide_eq_true hto
   have HF := hI (HBAD.out (by rw [HEB.out, decide_eq_false (show ¬ tt <= 876599 by omega)]; simp))
   go_wp2_with fail
   go_ret
   exact givesE_b (by rw [HF.out]) (HXR.out.trans HX2.out)
  have t2 : decide ((876599 : Int) < tt) = false := decide_eq_false hto
  have t2' : decide (tt <= 876599) = true := decide_eq_true (by omega)
  rw [t2'] at HEB
  clear t2' hto
  by_cases hrm : 40 < rn
  ·have t3 : decide ((40 : Int) < (rn : Int)) = true := decide_eq_true (by omega)
   have HF := hI (HBAD.out (by rw [HEB.out, decide_eq_false (show ¬ rn <= 40 by omega)]; simp))
   go_wp2_with fail
   go_ret
   exact givesE_b (by rw [HF.out]) (HXR.out.trans HX2.out)
  have t3 : decide ((40 : Int) < (rn : Int)) = false := decide_eq_false (by omega)
  have t3' : decide (rn <= 40) = true := decide_eq_true (by omega)
  rw [t3'] at HEB
  clear t3' hrm
  go_wp2_with fail
  refine (HNM.out w2 HX2.out).mono ?_
  rintro r w3 ⟨rfl, rfl⟩
  cases NM
  ·have HF := hI (HBAD.out (by rw [HEB.out]; simp))
   go_wp2_with fail
   go_ret
   exact givesE_b (by rw [HF.out]) (HXR.out.trans HX2.out)
  go_wp2_with fail
  refine (HDI.out _ HX2.out).mono ?_
  rintro r w3 ⟨rfl, ⟨m, rfl⟩⟩
  generalize hwg : World.drewN _ m = wg
  have hxg : Ext _ wg := hwg ▸ (Ext.refl _).drewN m
  have HX3 := hI (HX2.out.trans hxg)
  have HB3 := hI (hxg.blk HB2.out)
  have HBX4 := hI (hxg.blk HBX3.out)
  clear hwg hxg g0 g1 g2 g3 gf hltb HB2 HBX3
  obtain ⟨g0, g1, g2, g3, gf⟩ := blk4c HB3.out
  have hltb := blk_lt HB3.out
  cases DI
  ·have HF := hI (HBAD.out (by rw [HEB.out]; simp))
   go_wp2_with fail
   go_ret
   exact givesE_b (by rw [HF.out]) (HXR.out.trans HX3.out)
  go_wp2_with fail
  refine (HCL.out _ HX3.out).mono ?_
  rintro r w4 ⟨rfl, hx4⟩
  have HX4 := hI (HX3.out.trans hx4)
  have HBX5 := hI (hx4.blk HBX4.out)
  clear hx4 g0 g1 g2 g3 gf hltb
  cases CL
  ·have HF := hI (HBAD.out (by rw [HEB.out]; simp))
   go_wp2_with fail
   go_ret
   exact givesE_b (by rw [HF.out]) (HXR.out.trans HX4.out)
  have HEB2 := hI (show edmB x.ends[k] = true by rw [HEB.out]; rfl)
  go_wp2_with fail
  go_roundw
  case rel =>
   refine ⟨k + 1, by go_num, by omega, fun j hj hjk => ?_, HBX5.out, HXR.out.trans HX4.out⟩
   by_cases e : j = k
   ·subst e; exact HEB2.out
   exact HALL.out j hj (by omega)
  case measure => simp [intOf]; omega
theorem cwithin_calls (lo hi n : Int) (w : World) : Calls Tryz.prog 63 #[.int .i64 n, .int .i64 lo, .int .i64 hi] w (GivesE (.bool (inB lo hi n)) w) := by
 obtain ⟨B, hB⟩ : ∃ B, B = inB lo hi n := ⟨_, rfl⟩
 rw [<- hB]
 have HB := hI hB
 clear hB
 by_cases h1 : lo <= n
 ·by_cases h2 : n <= hi
  ·have t1 : decide (lo <= n) = true := decide_eq_true h1
   have t2 : decide (n <= hi) = true := decide_eq_true h2
   have HQ := hI (show B = true by rw [HB.out]; simp [inB, h1, h2])
   clear h1 h2
   go_enter Tryz.func63, Tryz.ntmps63
   go_wp2_with fail
   go_ret
   exact givesE_bool (by rw [HQ.out]) (Ext.refl w)
  have t1 : decide (lo <= n) = true := decide_eq_true h1
  have t2 : decide (n <= hi) = false := decide_eq_false h2
  have HQ := hI (show B = false by rw [HB.out]; simp [inB, h2])
  clear h1 h2
  go_enter Tryz.func63, Tryz.ntmps63
  go_wp2_with fail
  go_ret
  exact givesE_bool (by rw [HQ.out]) (Ext.refl w)
 have t1 : decide (lo <= n) = false := decide_eq_false h1
 have HQ := hI (show B = false by rw [HB.out]; simp [inB, h1])
 clear h1
 go_enter Tryz.func63, Tryz.ntmps63
 go_wp2_with fail
 go_ret
 exact givesE_bool (by rw [HQ.out]) (Ext.refl w)
def kindV (v : EvV) : Value :=
 if v.x.kind = 1 then .iface 173 (.agg #[.slice v.a v.n v.c])
 else if v.x.kind = 2 then .iface 174 (.agg #[.slice v.a v.n v.c])
 else if v.x.kind = 3 then .iface 176 (.agg #[.int .i64 v.x.cur, .int .i64 v.x.amount])
 else if v.x.kind = 4 then .iface 177 (.agg #[.int .i64 v.x.cur, .int .i64 v.x.amount])
 else if v.x.kind = 5 then .iface 191 (.agg #[])
 else if v.x.kind = 6 then .iface 192 (.agg #[])
 else if v.x.kind = 7 then .iface 165 (.agg #[.int .i64 v.x.target])
 else .nilIface
theorem kindV_1 {v : EvV} (h : v.x.kind = 1) : kindV v = .iface 173 (.agg #[.slice v.a v.n v.c]) := by unfold kindV; simp [h]
theorem kindV_2 {v : EvV} (h : v.x.kind = 2) : kindV v = .iface 174 (.agg #[.slice v.a v.n v.c]) := by unfold kindV; simp [h]
theorem kindV_3 {v : EvV} (h : v.x.kind = 3) : kindV v = .iface 176 (.agg #[.int .i64 v.x.cur, .int .i64 v.x.amount]) := by unfold kindV; simp [h]
theorem kindV_4 {v : EvV} (h : v.x.kind = 4) : kindV v = .iface 177 (.agg #[.int .i64 v.x.cur, .int .i64 v.x.amount]) := by unfold kindV; simp [h]
theorem kindV_5 {v : EvV} (h : v.x.kind = 5) : kindV v = .iface 191 (.agg #[]) := by unfold kindV; simp [h]
theorem kindV_6 {v : EvV} (h : v.x.kind = 6) : kindV v = .iface 192 (.agg #[]) := by unfold kindV; simp [h]
theorem kindV_7 {v : EvV} (h : v.x.kind = 7) : kindV v = .iface 165 (.agg #[.int .i64 v.x.target]) := by unfold kindV; simp [h]
theorem kindV_0 {v : EvV} (h : v.x.kind < 1 \/ 7 < v.x.kind) : kindV v = .nilIface := by
 unfold kindV
 rw [if_neg (by omega), if_neg (by omega), if_neg (by omega), if_neg (by omega), if_neg (by omega), if_neg (by omega), if_neg (by omega)]
theorem kindOf_calls (v : EvV) (w : World) : Calls Tryz.prog 98 #[v.val] w (GivesE (kindV v) w) := by
 obtain ⟨R, hR⟩ : ∃ R, R = kindV v := ⟨_, rfl⟩
 rw [<- hR]
 have HR := hI hR
 clear hR
 unfold EvV.val
 obtain ⟨⟨number, known, kind, items, cur, amount, target⟩, a, n, c⟩ := v
 dsimp only
 obtain ⟨wa, hwa⟩ : ∃ wa, wa = w.alloc (.cells #[.int .i64 number, .int .i64 known, .int .i64 kind, .slice a n c, .int .i64 cur, .int .i64 amount, .int .i64 target] 71) := ⟨_, rfl⟩
 have hxa : Ext w wa := by rw [hwa]; exact (Ext.refl _).alloc _
 have HXA := hI hxa
 have hb0 : wa.heap[w.heap.size]? = some (.cells #[.int .i64 number, .int .i64 known, .int .i64 kind, .slice a n c, .int .i64 cur, .int .i64 amount, .int .i64 target] 71 (0, 0)) := by rw [hwa]; exact alloc_new w _
 obtain ⟨f0, f1, f2, f3, f4, f5, f6, ff⟩ := blk7 hb0
 clear hxa hb0
 rcases (by omega : kind = 1 \/ kind = 2 \/ kind = 3 \/ kind = 4 \/ kind = 5 \/ kind = 6 \/ kind = 7 \/ (kind < 1 \/ 7 < kind)) with rfl | rfl | rfl | rfl | rfl | rfl | rfl | hk
 case' inl => have HQ := hI (HR.out.trans (kindV_1 rfl))
 case' inr.inl => have HQ := hI (HR.out.trans (kindV_2 rfl))
 case' inr.inr.inl => have HQ := hI (HR.out.trans (kindV_3 rfl))
 case' inr.inr.inr.inl => have HQ := hI (HR.out.trans (kindV_4 rfl))
 case' inr.inr.inr.inr.inl => have HQ := hI (HR.out.trans (kindV_5 rfl))
 case' inr.inr.inr.inr.inr.inl => have HQ := hI (HR.out.trans (kindV_6 rfl))
 case' inr.inr.inr.inr.inr.inr.inl => have HQ := hI (HR.out.trans (kindV_7 rfl))
 case' inr.inr.inr.inr.inr.inr.inr =>
  have HQ := hI (HR.out.trans (kindV_0 hk))
  have k1 : (kind == 1) = false := by simp; omega
  have k2 : (kind == 2) = false := by simp; omega
  have k3 : (kind == 3) = false := by simp; omega
  have k4 : (kind == 4) = false := by simp; omega
  have k5 : (kind == 5) = false := by simp; omega
  have k6 : (kind == 6) = false := by simp; omega
  have k7 : (kind == 7) = false := by simp; omega
  clear hk
 all_goals
  clear HR
  go_enter Tryz.func98, Tryz.ntmps98
  go_upto_region 1 with fail
  rw [<- hwa]
  clear hwa
  go_wp2_with fail
  go_ret
  exact ⟨congrArg Ending.returned HQ.out.symm, HXA.out⟩
theorem cashErr_a {cur amount : Int} (h : inB 0 15 cur = false) : cashErr cur amount = 15 := by unfold cashErr; rw [if_pos h]
theorem cashErr_b {cur amount : Int} (h : inB 0 15 cur = true) (h2 : inB 1 1073741824 amount = false) : cashErr cur amount = 1 := by unfold cashErr; rw [if_neg (by simp [h]), if_pos h2]
theorem cashErr_c {cur amount : Int} (h : inB 0 15 cur = true) (h2 : inB 1 1073741824 amount = true) : cashErr cur amount = 0 := by unfold cashErr; rw [if_neg (by simp [h]), if_neg (by simp [h2])]
theorem cash_calls (cur amount : Int) (w : World) : Calls Tryz.prog 105 #[.agg #[.int .i64 cur, .int .i64 amount]] w (GivesE (.int .i64 (cashErr cur amount)) w) := by
 obtain ⟨R, hR⟩ : ∃ R, R = cashErr cur amount := ⟨_, rfl⟩
 rw [<- hR]
 have HR := hI hR
 clear hR
 obtain ⟨wa, hwa⟩ : ∃ wa, wa = w.alloc (.cells #[.int .i64 cur, .int .i64 amount] 74) := ⟨_, rfl⟩
 have hxa : Ext w wa := by rw [hwa]; exact (Ext.refl _).alloc _
 have HXA := hI hxa
 have HB0 := hI (show wa.heap[w.heap.size]? = some (.cells #[.int .i64 cur, .int .i64 amount] 74 (0, 0)) by rw [hwa]; exact alloc_new w _)
 obtain ⟨f0, f1, ff⟩ := blk2 HB0.out
 clear hxa
 have HW1 := hI (fun W => cwithin_calls 0 15 cur W)
 have HW2 := hI (fun W => cwithin_calls 1 1073741824 amount W)
 obtain ⟨B, hB⟩ : ∃ B, B = inB 0 15 cur := ⟨_, rfl⟩
 obtain ⟨C, hC⟩ : ∃ C, C = inB 1 1073741824 amount := ⟨_, rfl⟩
 rw [<- hB] at HW1
 rw [<- hC] at HW2
 cases B
 ·have HQ := hI (HR.out.trans (cashErr_a hB.symm))
  clear hB hC HR
  go_enter Tryz.func105, Tryz.ntmps105
  go_upto_region 1 with fail
  rw [<- hwa]
  clear hwa
  go_wp2_with fail
  refine (HW1.out wa).mono ?_
  rintro r w1 ⟨rfl, hx1⟩
  have HX1 := hI (HXA.out.trans hx1)
  clear hx1
  go_wp2_with fail
  go_ret
  exact givesE_of (by rw [HQ.out]) HX1.out
 cases C
 case' false => have HQ := hI (HR.out.trans (cashErr_b hB.symm hC.symm))
 case' true => have HQ := hI (HR.out.trans (cashErr_c hB.symm hC.symm))
 all_goals
  clear hB hC HR
  go_enter Tryz.func105, Tryz.ntmps105
  go_upto_region 1 with fail
  rw [<- hwa]
  clear hwa
  go_wp2_with fail
  refine (HW1.out wa).mono ?_
  rintro r w1 ⟨rfl, hx1⟩
  have HX1 := hI (HXA.out.trans hx1)
  obtain ⟨g0, g1, gf⟩ := blk2 (hx1.blk HB0.out)
  clear hx1 f0 f1 ff
  go_wp2_with fail
  refine (HW2.out w1).mono ?_
  rintro r w2 ⟨rfl, hx2⟩
  have HX2 := hI (HX1.out.trans hx2)
  clear hx2
  go_wp2_with fail
  go_ret
  exact givesE_of (by rw [HQ.out]) HX2.out
def idxE (o : Option Nat) : Int := match o with | some k => k | none => -1
theorem findE_hit {P : Ev -> Bool} {l : List Ev} {k : Nat} (hk : k < l.length) (h : P l[k] = true) (h0 : ∀ j (hj : j < l.length), j < k -> P l[j] = false) : l.findIdx? P = some k := by
 rw [List.findIdx?_eq_some_iff_getElem]
 exact ⟨hk, h, fun j hj => by rw [h0 j (by omega) hj]; simp⟩
theorem findE_miss {P : Ev -> Bool} {l : List Ev} (h0 : ∀ j (hj : j < l.length), P l[j] = false) : l.findIdx? P = none := by
 rw [List.findIdx?_eq_none_iff]
 intro x hx
 obtain ⟨j, hj, rfl⟩ := List.getElem_of_mem hx
 exact h0 j hj
def sameP (t : Int) (y : Ev) : Bool := y.number == t
def cloV (B : Nat) : Value := .func (.func 107) #[] #[.pointer (some ⟨B, 0, none⟩)]
theorem clo_calls (v : EvV) (t : Int) (B : Nat) (w : World) (hB : w.heap[B]? = some (.cells #[.int .i64 t] 165 (0, 0))) :
  Calls Tryz.prog 107 #[v.val, .pointer (some ⟨B, 0, none⟩)] w (GivesE (.bool (v.x.number == t)) w) := by
 unfold EvV.val
 obtain ⟨wa, hwa⟩ : ∃ wa, wa = w.alloc (.cells #[.int .i64 v.x.number, .int .i64 v.x.known, .int .i64 v.x.kind, .slice v.a v.n v.c, .int .i64 v.x.cur, .int .i64 v.x.amount, .int .i64 v.x.target] 71) := ⟨_, rfl⟩
 have HXA := hI (show Ext w wa by rw [hwa]; exact (Ext.refl _).alloc _)
 obtain ⟨f0, f1, f2, f3, f4, f5, f6, ff⟩ := blk7 (show wa.heap[w.heap.size]? = some (.cells #[.int .i64 v.x.number, .int .i64 v.x.known, .int .i64 v.x.kind, .slice v.a v.n v.c, .int .i64 v.x.cur, .int .i64 v.x.amount, .int .i64 v.x.target] 71 (0, 0)) by rw [hwa]; exact alloc_new w _)
 obtain ⟨g0, gf⟩ := blk1 (HXA.out.blk hB)
 clear hB
 go_enter Tryz.func107, Tryz.ntmps107
 go_upto_region 1 with fail
 rw [<- hwa]
 clear hwa
 go_wp2_with fail
 go_ret
 exact ⟨rfl, HXA.out⟩
theorem indexE_calls (l : List Ev) (a : OA) (n c : Nat) (t : Int) (B : Nat) (w : World) (hi : IsEvs w l a n c) (hn2 : n <= 1000000000000000) (hB : w.heap[B]? = some (.cells #[.int .i64 t] 165 (0, 0))) :
  Calls Tryz.prog 124 #[.slice a n c, cloV B] w (GivesE (.int .i64 (idxE (l.findIdx? (sameP t)))) w) := by
 have HI := hI hi
 have HN := hI hi.len
 have HB := hI hB
 obtain ⟨R, hR⟩ : ∃ R, R = idxE (l.findIdx? (sameP t)) := ⟨_, rfl⟩
 rw [<- hR]
 have HR := hI hR
 clear hi hB hR
 unfold cloV
 go_enter Tryz.func124, Tryz.ntmps124
 go_wp2_with fail
 go_loopw [8] (fun i wr => ∃ k : Nat, i = .int .i64 k /\ k <= n /\ (∀ j (h : j < l.length), j < k -> sameP t l[j] = false) /\ Ext w wr) (fun i _ => n - (intOf i).toNat)
 case atStart => exact ⟨0, rfl, by omega, fun j _ h => by omega, Ext.refl _⟩
 case round =>
  obtain ⟨k, rfl, hk, hno, hxr⟩ := hrel
  obtain ⟨wo, rfl⟩ : ∃ wo : World, wo = wr := ⟨_, rfl⟩
  have HNO := hI hno
  have HXR := hI hxr
  clear hno hxr
  by_cases hkn : k < n
  ·have hkl : k < l.length := by have := HN.out; omega
   have t1 : decide ((k : Int) < (n : Int)) = true := decide_eq_true (by omega)
   obtain ⟨b, off, v, rfl, hvx, hits, hrow⟩ := (HI.out.ext HXR.out).at hkl
   obtain ⟨c0, c1, c2, c3, c4, c5, c6⟩ := hrow.seven
   have HC := hI (clo_calls v t B wo (HXR.out.blk HB.out))
   unfold EvV.val at HC
   obtain ⟨E, hE⟩ : ∃ E, E = (v.x.number == t) := ⟨_, rfl⟩
   rw [<- hE] at HC
   have HEQ := hI (show sameP t l[k] = E by rw [hE, <- hvx]; rfl)
   clear hE hvx hits hrow
   go_wp2_with fail
   refine HC.out.mono ?_
   rintro r w3 ⟨rfl, hx3⟩
   have HX3 := hI (HXR.out.trans hx3)
   clear hx3 c0 c1 c2 c3 c4 c5 c6
   cases E
   ·go_wp2_with fail
    go_roundw
    case rel =>
     refine ⟨k + 1, by go_num, by omega, fun j hj hjk => ?_, HX3.out⟩
     by_cases e : j = k
     ·subst e; exact HEQ.out
     exact HNO.out j hj (by omega)
    case measure => simp [intOf]; omega
   have HF := hI (show R = (k : Int) by rw [HR.out, findE_hit hkl HEQ.out fun j hj hjk => HNO.out j hj hjk]; rfl)
   go_wp2_with fail
   go_ret
   exact givesE_of (by rw [HF.out]) HX3.out
  have t1 : decide ((k : Int) < (n : Int)) = false := decide_eq_false (by omega)
  have HF := hI (show R = -1 by rw [HR.out, findE_miss fun j hj => HNO.out j hj (by have := HN.out; omega)]; rfl)
  go_wp2_with fail
  go_ret
  exact givesE_of (by rw [HF.out]) HXR.out
theorem containsE_calls (l : List Ev) (a : OA) (n c : Nat) (t : Int) (B : Nat) (w : World) (hi : IsEvs w l a n c) (hn2 : n <= 1000000000000000) (hB : w.heap[B]? = some (.cells #[.int .i64 t] 165 (0, 0))) :
  Calls Tryz.prog 106 #[.slice a n c, cloV B] w (GivesE (.bool (l.any (fun y => y.number == t))) w) := by
 have HI := hI (indexE_calls l a n c t B w hi hn2 hB)
 obtain ⟨R, hR⟩ : ∃ R, R = l.any (fun y => y.number == t) := ⟨_, rfl⟩
 rw [<- hR]
 have HR := hI hR
 clear hi hR hB
 unfold cloV at *
 cases hf : l.findIdx? (sameP t) with
 | none =>
  rw [hf] at HI
  have HF := hI (show R = false by
   rw [HR.out, List.any_eq_false]
   intro x hx
   rw [List.findIdx?_eq_none_iff] at hf
   have := hf x hx
   simpa [sameP] using this)
  unfold idxE at HI
  go_enter Tryz.func106, Tryz.ntmps106
  go_wp2_with fail
  refine HI.out.mono ?_
  rintro r w3 ⟨rfl, hx3⟩
  have HX3 := hI hx3
  clear hx3
  go_wp2_with fail
  go_ret
  exact givesE_bool (by rw [HF.out]) HX3.out
 | some k =>
  rw [hf] at HI
  have HF := hI (show R = true by
   rw [HR.out, List.any_eq_true]
   rw [List.findIdx?_eq_some_iff_getElem] at hf
   obtain ⟨hk, h1, _⟩ := hf
   exact ⟨_, List.getElem_mem hk, h1⟩)
  have t1 : decide ((0 : Int) <= (k : Int)) = true := decide_eq_true (by omega)
  unfold idxE at HI
  go_enter Tryz.func106, Tryz.ntmps106
  go_wp2_with fail
  refine HI.out.mono ?_
  rintro r w3 ⟨rfl, hx3⟩
  have HX3 := hI hx3
  clear hx3
  go_wp2_with fail
  go_ret
  exact givesE_bool (by rw [HF.out]) HX3.out
end Go.Proofs.YtefjomofjejklaaGreat
