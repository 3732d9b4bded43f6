/-
  Texts of the claim, joined: Cdbl.
-/
import Derived.Test.YtfjlglefodndjaaDoorDo21
import Derived.Test.YtfjlglefodndjaaDoorDo25
import Derived.Test.YtfjlglefodndjaaDoorDo09
import Derived.Test.YtfjlglefodndjaaDoorDo13
import Derived.Test.YtfjlglefodndjaaDoorDo04
import Derived.Deep.DeepCutAuto
namespace Go.Proofs.YtfjlglefodndjaaDoor
open Go.RowKit

/-! The law CheckDoubles: the walk. -/
def ClaR (w : World) (l : List Cla) (vs : List ClV) : Prop := l.length = vs.length ∧ ∀ i (h1 : i < l.length) (h2 : i < vs.length), IsCla w l[i] vs[i]
theorem ClaR.mono {w w' : World} {l : List Cla} {vs : List ClV} (h : ClaR w l vs) (hs : Sub w w') : ClaR w' l vs := ⟨h.1, fun i h1 h2 => (h.2 i h1 h2).mono hs⟩
theorem ClaR.snoc {w : World} {l : List Cla} {vs : List ClV} {c : Cla} {v : ClV} (h : ClaR w l vs) (hc : IsCla w c v) : ClaR w (l ++ [c]) (vs ++ [v]) := by
  refine ⟨by simp [h.1], fun i h1 h2 => ?_⟩
  by_cases hi : i < l.length
  · have hi2 : i < vs.length := by rw [← h.1]; exact hi
    simp only [List.getElem_append_left hi, List.getElem_append_left hi2]
    exact h.2 i hi hi2
  · have e1 : i = l.length := by simp at h1; omega
    subst e1
    simp only [List.getElem_append_right (Nat.le_refl _), List.getElem_append_right (show vs.length ≤ l.length by rw [h.1]; exact Nat.le_refl _), Nat.sub_self, List.getElem_cons_zero]
    simpa [h.1] using hc
theorem dblL_succ (k : Nat) : dblL (k + 1) = dblL k ++ [dblC (k + 1)] := by
  unfold dblL
  rw [List.range_succ (n := k + 1), List.map_append]
  rfl
theorem dblN_cat (i : Nat) : (⟨#[100]⟩ : ByteArray) ++ ⟨#[97 + UInt8.ofNat i]⟩ = dblN (i + 1) := by
  apply ByteArray.ext
  rfl
theorem dblN_size (i : Nat) : (dblN i).size ≤ 2 := by
  cases i with
  | zero => decide
  | succ i => exact Nat.le_refl 2
theorem dblE_ok (i : Nat) : (dblE i).fits ∧ (dblE i).few ∧ (dblE i).size ≤ 3 ∧ bareE (dblE i) = true := by
  cases i with
  | zero => exact ⟨fits_plain (by decide), by unfold dblE exTrue Ex.few; exact ⟨by simp, by unfold fewAll; trivial⟩, by simp [dblE, exTrue, Ex.size, sizes], by simp [dblE, exTrue, bareE, bareL]⟩
  | succ i =>
    have hn := dblN_size i
    have h1 : (exNm (dblN i)).fits := fits_plain (by omega)
    have h2 : (exNm (dblN i)).few := by unfold exNm Ex.few; exact ⟨by simp, by unfold fewAll; trivial⟩
    refine ⟨?_, ?_, by simp [dblE, exNm, Ex.size, sizes], by simp [dblE, exNm, bareE, bareL]⟩
    · unfold dblE Ex.fits
      exact ⟨by show 0 ≤ _; omega, by simp, fitsAll_of _ (by simpa using h1)⟩
    · unfold dblE Ex.few
      exact ⟨by simp, fewAll_of _ (by simpa using h2)⟩
theorem dblC_fit (i : Nat) : (dblC i).fit := by
  obtain ⟨h1, h2, h3, _⟩ := dblE_ok i
  have := dblN_size i
  exact ⟨by show (dblN i).size ≤ _; omega, h1, h2, slim_of_size _ (by show (dblE i).size ≤ _; omega), by simp [dblC], by unfold dblC wbFits; trivial⟩
theorem dblL_mem {k : Nat} {c : Cla} (h : c ∈ dblL k) : ∃ i, c = dblC i := by
  unfold dblL at h
  obtain ⟨i, _, rfl⟩ := List.mem_map.1 h
  exact ⟨i, rfl⟩
theorem clas_of_owns {W : World} {B : Nat} {v : Value} {l : List Cla} {vs : List ClV} (h : W.ownsRow B 28 10 v l.length (vs.flatMap ClV.cells)) (hR : ClaR W l vs) : ∃ a c, v = .slice a l.length c ∧ IsClas W l a l.length c := by
  rw [hR.1] at h
  obtain ⟨a, c, rfl, hr⟩ := IsRows.of_owns ClV.len h
  exact ⟨a, c, by rw [hR.1], vs, by rw [hR.1]; exact hr, hR.1, hR.2⟩
def DblR (w : World) (k : Nat) (v s t i : Value) (wr : World) : Prop := ∃ (q : Nat) (cvs : List ClV), i = .int .i64 ((q : Nat) : Int) ∧ q ≤ k ∧ s = .string (dblN q) ∧ t = .int .i64 ((dblS q : Nat) : Int) ∧
  wr.ownsRow w.heap.size 28 10 v (q + 1) (cvs.flatMap ClV.cells) ∧ ClaR (mask wr (rowOf v)) (dblL q) cvs ∧ Ext w wr
set_option maxRecDepth 100000 in
set_option maxHeartbeats 16000000 in
theorem cdbl_calls (n : Int) (hn0 : 0 ≤ n) (hn1 : n ≤ 255) (w : World) (ho : HasOps w) : Calls Tryd.prog 3 #[.int .u8 n] w (GivesE (.bool true) w) := by
  obtain ⟨k, hk⟩ : ∃ k : Nat, n % 20 = (k : Int) := ⟨(n % 20).toNat, by omega⟩
  have hk20 : k < 20 := by omega
  have HK := Lib.hid hk
  have HO := Lib.hid ho
  clear hk ho
  go_enter Tryd.func3, Tryd.ntmps3
  go_upto_region 2 with fail
  rw [HK.out]
  go_wp2_with fail
  have HOW0 := Lib.hid (owns_newC w #[.int .i64 1, .string ⟨#[100]⟩, .int .i64 1, .string ⟨#[]⟩, .slice none 0 0, .int .i64 0, .int .i64 0, .slice none 0 0, .slice none 0 0, .int .i64 0] 28 (size := 10) (n := 1) (by simp) (by unfold maxLen; omega) (Nat.le_refl _))
  go_loopw [4, 5, 6, 7] (DblR w k) (fun _ _ _ i _ => k - (intOf i).toNat)
  case atStart =>
    refine ⟨0, [⟨1, ⟨#[100]⟩, ⟨1, ⟨#[]⟩, none, 0, 0, 0, 0, none, 0, 0⟩, none, 0, 0, 0⟩], rfl, by omega, rfl, rfl, HOW0.out, ⟨rfl, fun i h1 h2 => ?_⟩, (Ext.refl w).alloc _⟩
    obtain rfl : i = 0 := by simpa using h2
    exact ⟨rfl, rfl, isEx_plain _ 1 0 0 ⟨#[]⟩, rfl, Nat.le_refl _, Or.inl ⟨rfl, rfl⟩, by show WbsD _ [] _; unfold WbsD; trivial, rfl⟩
  case round =>
    obtain ⟨q, cvs, rfl, hq, rfl, rfl, how, hcr, hxr⟩ := hrel
    obtain ⟨va, vc, hv⟩ := owns_formG how
    subst hv
    have HOW := Lib.hid how
    have HCR := Lib.hid hcr
    have HXR := Lib.hid hxr
    have hxrz := hxr.size
    have hsle := dblS_le q
    clear how hcr hxr HOW0
    obtain ⟨nm, hnm⟩ : ∃ nm, nm = dblN q := ⟨_, rfl⟩
    obtain ⟨sz, hsz⟩ : ∃ sz, sz = dblS q := ⟨_, rfl⟩
    rw [← hnm, ← hsz]
    rw [← hsz] at hsle
    have HNM := Lib.hid hnm
    have HSZ := Lib.hid hsz
    clear hnm hsz
    by_cases hqk : q < k
    · have t1 : decide ((q : Int) < (k : Int)) = true := decide_eq_true (by omega)
      have kc := conv_byte
      go_upto_region 9 with fail
      clear kc
      obtain ⟨w9, hw9⟩ : ∃ w9, w9 = (wr.alloc (.cells #[.int .i64 3, .string nm, .slice none 0 0, .int .i64 0, .int .i64 0, .slice none 0 0] 25)).alloc (.cells #[.int .u8 (97 + (q : Int))] 5) := ⟨_, rfl⟩
      have hx9 : Ext wr w9 := by rw [hw9]; exact ((Ext.refl _).alloc _).alloc _
      have hby : w9.heap[wr.heap.size]? = some (.cells #[.int .i64 3, .string nm, .slice none 0 0, .int .i64 0, .int .i64 0, .slice none 0 0] 25 (0, 0)) := by rw [hw9]; exact blk_alloc (alloc_new wr _)
      rw [← hw9, dblN_cat]
      obtain ⟨b0, b1, b2, b3, b4, b5, bf⟩ := blk6 hby
      have hlty := blk_lt hby
      clear hw9 hby
      obtain ⟨wx, hwx⟩ : ∃ wx, wx = w9.alloc (.cells #[.int .i64 3, .string nm, .slice none 0 0, .int .i64 0, .int .i64 0, .slice none 0 0, .int .i64 3, .string nm, .slice none 0 0, .int .i64 0, .int .i64 0, .slice none 0 0] 25) := ⟨_, rfl⟩
      have hxx : Ext wr wx := by rw [hwx]; exact hx9.alloc _
      have HBZ := Lib.hid (show wx.heap[w9.heap.size]? = some (.cells #[.int .i64 3, .string nm, .slice none 0 0, .int .i64 0, .int .i64 0, .slice none 0 0, .int .i64 3, .string nm, .slice none 0 0, .int .i64 0, .int .i64 0, .slice none 0 0] 25 (0, 0)) by rw [hwx]; exact alloc_new w9 _)
      have HOWX := Lib.hid (show (w9.alloc (.cells #[.int .i64 3, .string nm, .slice none 0 0, .int .i64 0, .int .i64 0, .slice none 0 0, .int .i64 3, .string nm, .slice none 0 0, .int .i64 0, .int .i64 0, .slice none 0 0] 25)).ownsRow w.heap.size 28 10 (.slice va (q + 1) vc) (q + 1) (cvs.flatMap ClV.cells) by rw [← hwx]; exact owns_extG HOW.out hxx)
      have HXX := Lib.hid hxx
      have HWZ := Lib.hid (show wx.heap.size = w9.heap.size + 1 by rw [hwx]; simp)
      have HZ9 := Lib.hid (show wr.heap.size < w9.heap.size by have := hx9.size; omega)
      have HZX := Lib.hid (show w.heap.size ≤ (w9.alloc (.cells #[.int .i64 3, .string nm, .slice none 0 0, .int .i64 0, .int .i64 0, .slice none 0 0, .int .i64 3, .string nm, .slice none 0 0, .int .i64 0, .int .i64 0, .slice none 0 0] 25)).heap.size by have := hx9.size; simp; omega)
      clear hx9 hxx
      go_wp2_with (at_builtin; refine wpList_append_at elemCla rfl _ _ rfl w.heap.size _ (q + 1) _ rfl HOWX.out _ 1 1 rfl ?f0 rfl ?f1 ?f2 ?f3 HZX.out ?_)
      case f0 => simp
      case f1 => simp [Value.oneCell']
      case f2 => unfold maxLen; omega
      case f3 => omega
      rw [← hwx]
      intro v8 w8 hown8 hc8 hw8
      rw [← HWZ.out] at hw8
      have HO8 := Lib.hid (show w8.ownsRow w.heap.size 28 10 v8 (q + 1 + 1) ((cvs ++ [(⟨1, dblN (q + 1), ⟨8, ⟨#[]⟩, none, 0, 0, 0, 0, some ⟨w9.heap.size, 0, none⟩, 2, 2⟩, none, 0, 0, 0⟩ : ClV)]).flatMap ClV.cells) by simpa [ClV.cells] using hown8)
      have hzr : w9.heap.size ∉ rowOf (.slice va (q + 1) vc) := fun hm => by have h1 := (HOW.out.lt _ (mem_rowOf.1 hm)).2; have := HZ9.out; omega
      have hlz := blk_lt HBZ.out
      have hz8 : w9.heap.size ∉ rowOf v8 := fun hm => by
        rcases hw8 _ (mem_rowOf.1 hm) with e | e
        · exact hzr (mem_rowOf.2 e)
        · omega
      have hbz8 := hc8.blk HBZ.out hzr
      have s1 : Sub (mask wr (rowOf (.slice va (q + 1) vc))) (mask wx (rowOf (.slice va (q + 1) vc))) := mask_ext _ HXX.out
      have s2 : Sub (mask wx (rowOf (.slice va (q + 1) vc))) (mask w8 (rowOf v8)) := row_keeps (N := []) hc8 hw8
      have hcell : ∀ j, (mask w8 (rowOf v8)).cell? ⟨w9.heap.size, j, none⟩ = w8.cell? ⟨w9.heap.size, j, none⟩ := fun j => by rw [mask_cell, if_neg hz8]
      have HIC := Lib.hid (show IsCla (mask w8 (rowOf v8)) (dblC (q + 1)) ⟨1, dblN (q + 1), ⟨8, ⟨#[]⟩, none, 0, 0, 0, 0, some ⟨w9.heap.size, 0, none⟩, 2, 2⟩, none, 0, 0, 0⟩ from by
        refine ⟨rfl, rfl, IsEx.mk (isStrs_nil _) rfl (Nat.le_refl _) (Or.inr ⟨_, _, rfl⟩) ?_, rfl, Nat.le_refl _, Or.inl ⟨rfl, rfl⟩, by show WbsD _ [] _; unfold WbsD; trivial, rfl⟩
        refine ExsD.of [exNm (dblN q), exNm (dblN q)] 0 [⟨3, nm, none, 0, 0, 0, 0, none, 0, 0⟩, ⟨3, nm, none, 0, 0, 0, 0, none, 0, 0⟩] rfl fun i h1 h2 => ?_
        have hi : i = 0 ∨ i = 1 := by simp at h1; omega
        rcases hi with rfl | rfl
        · refine ⟨fun j hj => ?_, by rw [HNM.out]; exact isEx_plain _ 3 0 0 _⟩
          rw [hcell, blk_cell hbz8]
          have hj' : j = 0 ∨ j = 1 ∨ j = 2 ∨ j = 3 ∨ j = 4 ∨ j = 5 := by omega
          rcases hj' with rfl | rfl | rfl | rfl | rfl | rfl <;> rfl
        · refine ⟨fun j hj => ?_, by rw [HNM.out]; exact isEx_plain _ 3 0 0 _⟩
          rw [hcell, blk_cell hbz8]
          have hj' : j = 0 ∨ j = 1 ∨ j = 2 ∨ j = 3 ∨ j = 4 ∨ j = 5 := by omega
          rcases hj' with rfl | rfl | rfl | rfl | rfl | rfl <;> rfl)
      have HR8 := Lib.hid (show ClaR (mask w8 (rowOf v8)) (dblL (q + 1)) _ by rw [dblL_succ]; exact (HCR.out.mono (s1.trans s2)).snoc HIC.out)
      have HX8 := Lib.hid (show Ext w w8 from hc8.ext (HXR.out.trans HXX.out) (fun y hy => (HOW.out.lt y (mem_rowOf.1 hy)).1))
      clear hown8 hc8 hw8 hzr hlz hz8 hbz8 s1 s2 hcell hwx b0 b1 b2 b3 b4 b5 bf
      go_wp2_with fail
      all_goals
        go_roundw
        case rel => exact ⟨q + 1, _, by go_num, by omega, rfl, by rw [dblS, ← HSZ.out]; congr 1; omega, HO8.out, HR8.out, HX8.out⟩
        case measure => simp [intOf]; omega
    · have t1 : decide ((q : Int) < (k : Int)) = false := decide_eq_false (by omega)
      obtain rfl : q = k := by omega
      obtain ⟨a', c', hv', hcl⟩ := clas_of_owns (l := dblL q) (by rw [dblL_len]; exact HOW.out) (HCR.out.mono (mask_sub _ _))
      rw [dblL_len] at hv' hcl
      simp only [Value.slice.injEq, true_and] at hv'
      obtain ⟨rfl, rfl⟩ := hv'
      have HCL := Lib.hid hcl
      clear hcl
      go_wp2_with fail
      refine (schema_calls 0 [] wr (by simp)).mono ?_
      rintro r w2 ⟨attrs, sv, rfl, hat, hsch, hx2⟩
      obtain ⟨sa, sn, sc, rfl, -⟩ := hsch.slice
      have HAT := Lib.hid hat
      have hx2' := HXR.out.trans hx2
      have HX2 := Lib.hid hx2'
      have hal : attrs.length ≤ 1000000000000000 := by
        have : ∀ s ∈ schemas, s.length ≤ 10 := by decide +kernel
        have := this attrs hat
        omega
      have HCC := Lib.hid (cClauses_calls attrs (dblL q) (.agg #[.slice sa sn sc]) va (q + 1) vc w2 (hsch.mono (mask_sub _ _)) (attrs_fits hat) hal (HCL.out.ext hx2) (by omega) (fun x hx => by obtain ⟨i, rfl⟩ := dblL_mem hx; exact dblC_fit i) (HO.out.ext hx2'))
      rw [dbl_err HAT.out hk20] at HCC
      have HCL2 := Lib.hid (HCL.out.ext hx2)
      have HBIG := Lib.hid (dblS_big hk20)
      rw [← HSZ.out] at HBIG
      have HXP := Lib.hid (fun (W : World) (hW : Ext w2 W) => cExpanded_calls (dblL q) va (q + 1) vc (exNm nm) (.agg #[.int .i64 3, .string nm, .slice none 0 0, .int .i64 0, .int .i64 0, .slice none 0 0]) W (HCL2.out.ext hW) (isEx_plain W 3 0 0 nm) ⟨by unfold exNm; rw [size_plain]; omega, fits_plain (by rw [HNM.out]; have := dblN_size q; omega), by unfold exNm bareE; simp [bareL]⟩ (by omega) (fun x hx => by
        obtain ⟨i, rfl⟩ := dblL_mem hx
        have h1 := dblE_ok i
        have h2 := dblN_size i
        exact ⟨by show (dblN i).size ≤ _; omega, by show (dblE i).size ≤ _; omega, h1.1, h1.2.2.2⟩))
      rw [show expanded (dblL q) (exNm nm) = sz by rw [HNM.out, HSZ.out]; exact dbl_name hk20] at HXP
      clear hat hsch hx2 hx2'
      by_cases h10 : 10 ≤ q
      · rw [if_pos h10] at HCC
        have tb : decide ((2000 : Int) < (sz : Int)) = true := decide_eq_true (by have := HBIG.out.2 h10; omega)
        unfold clsV at HCC
        go_wp2_with fail
        refine HCC.out.mono ?_
        rintro r w3 ⟨rfl, hx3⟩
        have HX3 := Lib.hid hx3
        clear hx3
        go_wp2_with fail
        refine (HXP.out w3 HX3.out).mono ?_
        rintro r w4 ⟨rfl, hx4⟩
        have HX4 := Lib.hid (HX2.out.trans (HX3.out.trans hx4))
        clear hx4
        go_wp2_with fail
        refine (awake10_calls _).mono ?_
        rintro r w5 ⟨rfl, hx5⟩
        have HX5 := Lib.hid (HX4.out.trans hx5)
        clear hx5
        go_wp2_with fail
        go_ret
        exact ⟨rfl, HX5.out⟩
      · rw [if_neg h10] at HCC
        have tb : decide ((2000 : Int) < (sz : Int)) = false := decide_eq_false (by have := mt HBIG.out.1 h10; omega)
        unfold clsV at HCC
        go_wp2_with fail
        refine HCC.out.mono ?_
        rintro r w3 ⟨rfl, hx3⟩
        have HX3 := Lib.hid hx3
        clear hx3
        go_wp2_with fail
        refine (HXP.out w3 HX3.out).mono ?_
        rintro r w4 ⟨rfl, hx4⟩
        have HX4 := Lib.hid (HX2.out.trans (HX3.out.trans hx4))
        clear hx4
        go_wp2_with fail
        refine (awake10_calls _).mono ?_
        rintro r w5 ⟨rfl, hx5⟩
        have HX5 := Lib.hid (HX4.out.trans hx5)
        clear hx5
        go_wp2_with fail
        go_ret
        exact ⟨rfl, HX5.out⟩
end Go.Proofs.YtfjlglefodndjaaDoor
