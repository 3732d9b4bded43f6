/-
  Texts of the claim, joined: RCls, MapAt, Heap1, Heap2, Heap3, Heap4, Heap5, Heap6.
-/
import Derived.Test.YtpkljcgihobaiaaGreatDoorSg11
import Derived.Maps.Range
import Derived.Lib.Builder
import Derived.Outline
namespace Go.Proofs.YtpkljcgihobaiaaGreatDoor
open Go.RowKit
theorem refExprB_size {e : Ex} (h : refExprB e = true) : e.size ≤ 100000 := by
  unfold refExprB refSize at h
  simp only [Bool.and_eq_true, decide_eq_true_eq] at h
  omega
theorem clauseB_cond {c : Cla} (h : clauseB c = true) : refExprB c.cond = true := by
  unfold clauseB at h
  simp only [Bool.and_eq_true] at h
  exact h.1.1.2
theorem claErr_valid {s : List Attr} {l : List Cla} {i : Nat} (h : claErr s l i = 0) (hi : i < l.length) : clauseB l[i] = true := by
  unfold claErr at h
  rw [getD_cla hi] at h
  cases hb : clauseB l[i]
  · rw [hb] at h; simp at h
  · rfl
theorem cls_bad {s : List Attr} {l : List Cla} (h : schemaErr s ≠ 0) : clausesErr s l = (0, schemaErr s) := by unfold clausesErr; rw [if_pos h]
theorem cls_many {s : List Attr} {l : List Cla} (h : schemaErr s = 0) (hn : 100 < l.length) : clausesErr s l = (0, 4) := by unfold clausesErr; rw [if_neg (by simp [h]), if_pos hn]
theorem cls_hit {s : List Attr} {l : List Cla} (h : schemaErr s = 0) (hn : ¬ 100 < l.length) {k : Nat} (hk : k < l.length) (h0 : ∀ j, j < k → claErr s l j = 0) (h1 : claErr s l k ≠ 0) : clausesErr s l = (k, claErr s l k) := by
  unfold clausesErr
  have := firstI_hit h1 h0 l.length hk
  rw [if_neg (by simp [h]), if_neg hn, this, if_pos h1]
theorem cls_cycle {s : List Attr} {l : List Cla} (h : schemaErr s = 0) (hn : ¬ 100 < l.length) (h0 : ∀ j, j < l.length → claErr s l j = 0) (hs : ¬ Sorts (l.map Cla.dfn)) : clausesErr s l = (0, 10) := by
  unfold clausesErr
  rw [if_neg (by simp [h]), if_neg hn, firstI_zero _ h0, if_neg (by simp), if_pos hs]
theorem cls_large {s : List Attr} {l : List Cla} (h : schemaErr s = 0) (hn : ¬ 100 < l.length) (h0 : ∀ j, j < l.length → claErr s l j = 0) (hs : Sorts (l.map Cla.dfn)) {k : Nat} (hk : k < l.length) (g0 : ∀ j, j < k → claLarge l j = 0) (g1 : claLarge l k = 4) : clausesErr s l = (k, 4) := by
  unfold clausesErr
  rw [if_neg (by simp [h]), if_neg hn, firstI_zero _ h0, if_neg (by simp), if_neg (by simp [hs]), firstI_hit (by rw [g1]; decide) g0 _ hk, g1]
theorem cls_good {s : List Attr} {l : List Cla} (h : schemaErr s = 0) (hn : ¬ 100 < l.length) (h0 : ∀ j, j < l.length → claErr s l j = 0) (hs : Sorts (l.map Cla.dfn)) (g0 : ∀ j, j < l.length → claLarge l j = 0) : clausesErr s l = (0, 0) := by
  unfold clausesErr
  rw [if_neg (by simp [h]), if_neg hn, firstI_zero _ h0, if_neg (by simp), if_neg (by simp [hs]), firstI_zero _ g0]
def clsV (r : Nat × Int) : Value := .tuple #[.int .i64 (r.1 : Nat), .int .i64 r.2]
theorem givesE_cls {r : Nat × Int} {i : Nat} {e : Int} {w w' : World} (h : r = (i, e)) (hx : Ext w w') : GivesE (clsV r) w (.returned (.tuple #[.int .i64 (i : Nat), .int .i64 e])) w' := by subst h; exact ⟨rfl, hx⟩
def c14V (b off n c k : Nat) (sa : Option Addr) (sn sc : Nat) (nm : ByteArray) (q : Nat) (ab : Bool) : Nat → Value → World → Prop
  | 0, u, _ => u = .agg #[.slice sa sn sc]
  | 1, u, _ => u = .slice (some ⟨b, off, none⟩) n c
  | 2, u, _ => u = .int .i64 k
  | 3, u, _ => u = .pointer (some ⟨b, off + k * 10, none⟩)
  | 4, u, _ => u = .pointer (some ⟨b, off + k * 10 + 1, none⟩)
  | 5, u, _ => u = .string nm
  | 6, u, _ => u = .tuple #[.int .i64 q, .bool ab]
  | 7, u, _ => u = .tuple #[.int .i64 q, .bool ab]
  | 8, u, _ => u = .int .i64 q
  | 9, u, _ => u = .bool ab
  | 10, u, _ => u = .int .i64 q
  | _, u, _ => u = .bool ab
def Cla.okk (c : Cla) : Prop := c.ok ∧ wbN c.unl < 1000000000000000
theorem Cla.okk.fit {c : Cla} (h : c.okk) : c.fit := h.1.fit
theorem wbN_of_cnt : (l : List Wb) → cntBacks l ≤ 40 → wbN l ≤ cntBacks l
  | [], _ => by simp [wbN]
  | .mk n c u :: r, h => by
    rw [cntBacks] at h ⊢
    have h1 := wbN_of_cnt u (by omega)
    have h2 := wbN_of_cnt r (by omega)
    rw [wbN]; omega
theorem wbOk_of : (d : Nat) → (l : List Wb) → backsB d l = true → wbFits l → wbOk l
  | _, [], _, _ => by unfold wbOk; trivial
  | d, .mk n c u :: r, h, hf => by
    rw [backsB] at h
    simp only [Bool.and_eq_true] at h
    rw [wbFits] at hf
    have := refExprB_size h.1.1.2
    unfold wbOk
    exact ⟨hf.1, hf.2.1, hf.2.2.1, by omega, wbOk_of _ u h.1.2 hf.2.2.2.2.2.1, wbOk_of d r h.2 hf.2.2.2.2.2.2⟩
theorem Cla.fit.okk {c : Cla} (h : c.fit) (hc : clauseB c = true) : c.okk := by
  have hx := refExprB_size (clauseB_cond hc)
  have key : wbOk c.unl ∧ wbN c.unl ≤ 40 := by
    unfold clauseB at hc
    simp only [Bool.and_eq_true, Bool.or_eq_true, decide_eq_true_eq] at hc
    rcases hc.1.2 with h0 | ⟨⟨_, h1⟩, h2⟩
    · rw [List.eq_nil_of_length_eq_zero h0]
      exact ⟨by unfold wbOk; trivial, by simp [wbN]⟩
    · exact ⟨wbOk_of 16 _ h2 h.2.2.2.2.2, Nat.le_trans (wbN_of_cnt _ h1) h1⟩
  exact ⟨⟨h.1, h.2.1, h.2.2.1, by omega, key.1, by omega⟩, by omega⟩
set_option maxRecDepth 100000 in
set_option maxHeartbeats 8000000 in
theorem rClauses_calls (s : List Attr) (l : List Cla) (sv : Value) (a : Option Addr) (n c : Nat) (w : World) (hs : IsSchema w s sv) (hf : ∀ x ∈ s, x.fits) (hsl : s.length ≤ 1000000000000000) (hl : IsClas w l a n c) (hn : n ≤ 1000000000000000) (hok : ∀ x ∈ l, x.fit) :
    Calls Tryz.prog 33 #[sv, .slice a n c] w (GivesE (clsV (clausesErr s l)) w) := by
  obtain ⟨sa, sn, sc, rfl, hsn⟩ := hs.slice
  have HS := Lib.hid hs
  have HL := Lib.hid hl
  have HN := Lib.hid hl.len
  have HF := Lib.hid hf
  have HOK := Lib.hid hok
  obtain ⟨R, hR⟩ : ∃ R, R = clausesErr s l := ⟨_, rfl⟩
  rw [← hR]
  have HR := Lib.hid hR
  clear hs hl hf hok hR hsn
  go_enter Tryz.func33, Tryz.ntmps33
  go_upto_region 1 with fail
  obtain ⟨wa, hwa⟩ : ∃ wa, wa = w.alloc (.cells #[.slice sa sn sc] 31) := ⟨_, rfl⟩
  have hxa : Ext w wa := by rw [hwa]; exact (Ext.refl _).alloc _
  have hb : wa.heap[w.heap.size]? = some (.cells #[.slice sa sn sc] 31 (0, 0)) := by rw [hwa]; exact alloc_new w _
  have HXA := Lib.hid hxa
  have HBA := Lib.hid hb
  obtain ⟨d0, df⟩ := blk1 hb
  rw [← hwa]
  clear hxa hb hwa
  go_wp2_with fail
  refine (rSchema_calls s _ wa (HS.out.ext HXA.out) HF.out hsl).mono ?_
  rintro r w1 ⟨rfl, hx1⟩
  have HX1 := Lib.hid (HXA.out.trans hx1)
  have HB1 := Lib.hid (hx1.blk HBA.out)
  clear hx1 d0 df
  by_cases hse : schemaErr s = 0
  case neg =>
    have tz : (schemaErr s != 0) = true := by simp [hse]
    have HQ := Lib.hid (HR.out.trans (cls_bad hse))
    go_wp2_with fail
    go_ret2
    exact givesE_cls HQ.out HX1.out
  have tz : (schemaErr s != 0) = false := by simp [hse]
  have HSE := Lib.hid hse
  clear hse
  by_cases hm : 100 < n
  · have tm : decide ((100 : Int) < (n : Int)) = true := decide_eq_true (by omega)
    have HQ := Lib.hid (HR.out.trans (cls_many HSE.out (by have := HN.out; omega)))
    go_wp2_with fail
    go_ret2
    exact givesE_cls HQ.out HX1.out
  have tm : decide ((100 : Int) < (n : Int)) = false := decide_eq_false (by omega)
  have HM := Lib.hid (show ¬ 100 < l.length by have := HN.out; omega)
  go_wp2_with fail
  go_loopw [7] (fun t wr => ∃ k : Nat, t = .int .i64 k ∧ k ≤ n ∧ (∀ j, j < k → claErr s l j = 0) ∧ wr.heap[w.heap.size]? = some (.cells #[.slice sa sn sc] 31 (0, 0)) ∧ Ext w wr) (fun t _ => n - (intOf t).toNat)
  case atStart => exact ⟨0, rfl, by omega, fun j h => by omega, HB1.out, HX1.out⟩
  case round =>
    obtain ⟨k, rfl, hk, hno, hbx, hxr⟩ := hrel
    have HNO := Lib.hid hno
    have HBX := Lib.hid hbx
    have HXR := Lib.hid hxr
    obtain ⟨d0, df⟩ := blk1 hbx
    clear hno hbx hxr HB1 HX1
    by_cases hkn : k < n
    · have hkl : k < l.length := by have := HN.out; omega
      have t1 : decide ((k : Int) < (n : Int)) = true := decide_eq_true (by omega)
      obtain ⟨b, off, v, rfl, hcla, hrow⟩ := (HL.out.ext HXR.out).at hkl
      obtain ⟨c0, c1, c2, c3, c4, c5, c6, c7, c8, c9⟩ := hrow.ten
      have HCLA := Lib.hid hcla
      have HROW := Lib.hid hrow
      have HOKF := Lib.hid (HOK.out _ (List.getElem_mem hkl))
      have ti0 : (0 : Int) ≤ (k : Int) := by omega
      have ti1 : (k : Int) < (n : Int) := by omega
      have HCE := Lib.hid (show claErr s l k = if clauseB l[k] = false then 5 else if (findAt l l[k].name).getD 0 < k then 8 else if (attrAt s l[k].name).isSome then 8 else if nodesErr s l l[k].cond ≠ 0 then nodesErr s l l[k].cond else backsErr s l l[k].unl by unfold claErr; rw [getD_cla hkl])
      have HHIT := Lib.hid (fun (e : Int) (h : claErr s l k = e) (h0 : e ≠ 0) => HR.out.trans (by rw [cls_hit HSE.out HM.out hkl HNO.out (by rw [h]; exact h0), h]))
      have HNAM := Lib.hid hcla.2.1
      clear hcla hrow
      go_upto_region 9 with fail
      go_wp2_with fail
      refine (rclause_fit l[k] v wr HCLA.out HOKF.out).mono ?_
      rintro r w3 ⟨rfl, hx3⟩
      have HX3 := Lib.hid (HXR.out.trans hx3)
      have HB3 := Lib.hid (hx3.blk HBX.out)
      have HC3 := Lib.hid (HCLA.out.mono hx3.sub)
      have HR3 := Lib.hid (HROW.out.mono hx3.sub)
      clear hx3 d0 df c0 c1 c2 c3 c4 c5 c6 c7 c8 c9 HBX HCLA HROW
      obtain ⟨d0, df⟩ := blk1 HB3.out
      obtain ⟨c0, c1, c2, c3, c4, c5, c6, c7, c8, c9⟩ := HR3.out.ten
      cases hcb : clauseB l[k]
      · have HQ := Lib.hid (HHIT.out 5 (by rw [HCE.out, hcb]; rfl) (by decide))
        clear hcb
        go_wp2_with fail
        go_ret2
        exact givesE_cls HQ.out HX3.out
      have HOKK := Lib.hid (HOKF.out.okk hcb)
      rw [hcb] at HCE
      simp only [Bool.true_eq_false, if_false] at HCE
      clear hcb
      go_wp2_with fail
      rw [HNAM.out]
      refine (rFind_calls l _ n c l[k].name w3 (HL.out.ext HX3.out) hn).mono ?_
      rintro r w4 ⟨rfl, rfl⟩
      unfold optV
      obtain ⟨F, hF⟩ : ∃ F, F = (findAt l l[k].name).getD 0 := ⟨_, rfl⟩
      rw [← hF] at HCE ⊢
      have hFl : F ≤ l.length := by
        rw [hF]
        cases hfa : findAt l l[k].name with
        | none => simp
        | some q =>
          unfold findAt at hfa
          rw [List.findIdx?_eq_some_iff_getElem] at hfa
          obtain ⟨h1, _⟩ := hfa
          simp only [Option.getD_some]; omega
      generalize (findAt l l[k].name).isSome = fb
      clear hF
      by_cases hfk : F < k
      · have tf : decide (F < k) = true := decide_eq_true hfk
        have HQ := Lib.hid (HHIT.out 8 (by rw [HCE.out, if_pos hfk]) (by decide))
        go_wp2_with fail
        go_ret2
        exact givesE_cls HQ.out HX3.out
      have tf : decide (F < k) = false := decide_eq_false hfk
      rw [if_neg hfk] at HCE
      clear hFl
      go_wp2_with fail
      have HIX := Lib.hid (fun (W : World) (hW : Ext w3 W) => rIndex_calls s _ l[k].name W (HS.out.ext (HX3.out.trans hW)) hsl)
      obtain ⟨q, hq⟩ : ∃ q, q = (attrAt s l[k].name).getD 0 := ⟨_, rfl⟩
      obtain ⟨ab, hab⟩ : ∃ ab, ab = (attrAt s l[k].name).isSome := ⟨_, rfl⟩
      have HIV := Lib.hid (show optV (attrAt s l[k].name) = .tuple #[.int .i64 (q : Nat), .bool ab] by rw [hq, hab]; rfl)
      rw [← hab] at HCE
      rw [HNAM.out] at c1
      obtain ⟨nm, hnm⟩ : ∃ nm, nm = l[k].name := ⟨_, rfl⟩
      rw [← hnm] at c1 HIX HIV
      clear hq hab hnm
      go_upto_region 14 with fail
      refine wp_region_grow (m := 12) [11] (GrG w3) GrE (GrP (c14V b off n c k sa sn sc nm q ab)) (by kernel_rfl) (by kernel_rfl) ((Ext.refl w3).drew) ?_ ?_ ?_
      · intro i k v W W' hi hk hne hout h hE
        have hE : Ext W W' := hE
        have hi' : i = 0 ∨ i = 1 ∨ i = 2 ∨ i = 3 ∨ i = 4 ∨ i = 5 ∨ i = 6 ∨ i = 7 ∨ i = 8 ∨ i = 9 ∨ i = 10 ∨ i = 11 := by omega
        clear hi hk hne hout
        rcases hi' with rfl | rfl | rfl | rfl | rfl | rfl | rfl | rfl | rfl | rfl | rfl | rfl
        · exact h
        · exact h
        · exact h
        · exact h
        · exact h
        · exact h
        · exact h
        · exact h
        · exact h
        · exact h
        · exact h
        · exact h
      · intro q op hq ho vs W hW hd ρ hρ
        have hq' : q = 0 ∨ q = 1 ∨ q = 2 ∨ q = 3 ∨ q = 4 ∨ q = 5 ∨ q = 6 ∨ q = 7 ∨ q = 8 ∨ q = 9 ∨ q = 10 ∨ q = 11 := by omega
        clear hq
        have o2 : ρ (.tmp 2) = .pointer (some ⟨w.heap.size, 0, none⟩) := hρ.out 2 rfl
        have o1 : ρ (.tmp 1) = .slice (some ⟨b, off, none⟩) n c := hρ.out 1 rfl
        have o7 : ρ (.tmp 7) = .int .i64 k := hρ.out 7 rfl
        have i1 := hρ.ins 1 54 (by omega) rfl (Nat.le_of_ble_eq_true rfl)
        have i2 := hρ.ins 2 55 (by omega) rfl (Nat.le_of_ble_eq_true rfl)
        have i3 := hρ.ins 3 56 (by omega) rfl (Nat.le_of_ble_eq_true rfl)
        have i4 := hρ.ins 4 57 (by omega) rfl (Nat.le_of_ble_eq_true rfl)
        have i0 := hρ.ins 0 53 (by omega) rfl (Nat.le_of_ble_eq_true rfl)
        have i5 := hρ.ins 5 58 (by omega) rfl (Nat.le_of_ble_eq_true rfl)
        have i6 := hρ.ins 6 59 (by omega) rfl (Nat.le_of_ble_eq_true rfl)
        have i7 := hρ.ins 7 52 (by omega) rfl (Nat.le_of_ble_eq_true rfl)
        have i8 := hρ.ins 8 60 (by omega) rfl (Nat.le_of_ble_eq_true rfl)
        have i9 := hρ.ins 9 61 (by omega) rfl (Nat.le_of_ble_eq_true rfl)
        have hc := hρ.const
        have hfn := hρ.func
        clear hρ
        have HW := Lib.hid (show Ext w3 W from hW)
        rcases hq' with rfl | rfl | rfl | rfl | rfl | rfl | rfl | rfl | rfl | rfl | rfl | rfl
        · cases ho
          clear hd
          have g0 := HW.out.cell d0
          unfold GivesOp
          go_simp
          exact ⟨Ext.refl W, rfl⟩
        · cases ho
          clear hd
          unfold GivesOp
          go_simp
          exact ⟨Ext.refl W, rfl⟩
        · cases ho
          clear hd
          unfold GivesOp
          go_simp
          exact ⟨Ext.refl W, rfl⟩
        · cases ho
          have h1 : vs 1 = .slice (some ⟨b, off, none⟩) n c := hd ⟨1, .data⟩ (by simp) rfl
          rw [h1] at i1
          have h2 : vs 2 = .int .i64 k := hd ⟨2, .data⟩ (by simp) rfl
          rw [h2] at i2
          clear hd
          unfold GivesOp
          go_simp
          exact ⟨Ext.refl W, rfl⟩
        · cases ho
          have h3 : vs 3 = .pointer (some ⟨b, off + k * 10, none⟩) := hd ⟨3, .data⟩ (by simp) rfl
          rw [h3] at i3
          clear hd
          unfold GivesOp
          go_simp
          exact ⟨Ext.refl W, rfl⟩
        · cases ho
          have h4 : vs 4 = .pointer (some ⟨b, off + k * 10 + 1, none⟩) := hd ⟨4, .data⟩ (by simp) rfl
          rw [h4] at i4
          clear hd
          have g1 := HW.out.cell c1
          unfold GivesOp
          go_simp
          exact ⟨Ext.refl W, rfl⟩
        · cases ho
          have h0 : vs 0 = .agg #[.slice sa sn sc] := hd ⟨0, .data⟩ (by simp) rfl
          rw [h0] at i0
          have h5 : vs 5 = .string nm := hd ⟨5, .data⟩ (by simp) rfl
          rw [h5] at i5
          clear hd
          unfold GivesOp
          go_simp
          refine (HIX.out W HW.out).mono ?_
          rw [HIV.out]
          rintro r w5 ⟨rfl, hx5⟩
          exact ⟨_, rfl, hx5, HW.out.trans hx5, rfl⟩
        · cases ho
          have h6 : vs 6 = .tuple #[.int .i64 q, .bool ab] := hd ⟨6, .data⟩ (by simp) rfl
          rw [h6] at i6
          clear hd
          unfold GivesOp
          go_simp
          exact ⟨Ext.refl W, rfl⟩
        · cases ho
          have h7 : vs 7 = .tuple #[.int .i64 q, .bool ab] := hd ⟨7, .data⟩ (by simp) rfl
          rw [h7] at i7
          clear hd
          unfold GivesOp
          go_simp
          exact ⟨Ext.refl W, rfl⟩
        · cases ho
          have h7 : vs 7 = .tuple #[.int .i64 q, .bool ab] := hd ⟨7, .data⟩ (by simp) rfl
          rw [h7] at i7
          clear hd
          unfold GivesOp
          go_simp
          exact ⟨Ext.refl W, rfl⟩
        · cases ho
          have h8 : vs 8 = .int .i64 q := hd ⟨8, .data⟩ (by simp) rfl
          rw [h8] at i8
          clear hd
          unfold GivesOp
          go_simp
          exact ⟨Ext.refl W, rfl⟩
        · cases ho
          have h9 : vs 9 = .bool ab := hd ⟨9, .data⟩ (by simp) rfl
          rw [h9] at i9
          clear hd
          unfold GivesOp
          go_simp
          exact ⟨Ext.refl W, rfl⟩
      intro vs W hW hR
      rw [if_pos (by decide +kernel)]
      have h11 : vs 11 = .bool ab := hR 11 (by simp) (by omega)
      simp only [acts, dstAt, List.range, List.range.loop, List.foldl_cons, List.foldl_nil, h11]
      go_simp
      have hW2 : Ext w3 W := hW
      clear hR hW h11
      have hx6 := hW2
      clear hW2
      have HX6 := Lib.hid (HX3.out.trans hx6)
      have HB6 := Lib.hid (hx6.blk HB3.out)
      have HR6 := Lib.hid (HR3.out.mono hx6.sub)
      have HC6 := Lib.hid (HC3.out.mono hx6.sub)
      obtain ⟨w6, hw6⟩ : ∃ w6, w6 = W := ⟨_, rfl⟩
      rw [← hw6] at HX6 HB6 HR6 HC6 ⊢
      clear hw6 hx6 HB3 HR3 HC3 d0 df c0 c1 c2 c3 c4 c5 c6 c7 c8 c9
      obtain ⟨d0, df⟩ := blk1 HB6.out
      obtain ⟨c0, c1, c2, c3, c4, c5, c6, c7, c8, c9⟩ := HR6.out.ten
      cases hat : ab
      case true =>
        have HQ := Lib.hid (HHIT.out 8 (by rw [HCE.out, hat]; rfl) (by decide))
        clear hat
        go_wp2_with fail
        go_ret2
        exact givesE_cls HQ.out HX6.out
      rw [hat] at HCE
      simp only [Bool.false_eq_true, if_false] at HCE
      clear hat
      go_wp2_with fail
      go_still_tail 7, (by kernel_rfl)
      change wpList _ _ _ _ _ w6.drew
      have hx7 : Ext w6 w6.drew := (Ext.refl w6).drew
      generalize w6.drew = w7 at hx7 ⊢
      have HX7 := Lib.hid (HX6.out.trans hx7)
      have HB7 := Lib.hid (hx7.blk HB6.out)
      have HR7 := Lib.hid (HR6.out.mono hx7.sub)
      have HC7 := Lib.hid (HC6.out.mono hx7.sub)
      clear hx7 d0 df c0 c1 c2 c3 c4 c5 c6 c7 c8 c9 HB6 HR6 HC6
      go_wp2_with fail
      refine (rnodesErr_calls s l HF.out hsl _ n c hn 1000000000000000 l[k].cond _ _ w7 HOKK.out.1.2.2.2.1 (by omega) HOKK.out.1.2.2.1 (HS.out.ext HX7.out) (HL.out.ext HX7.out) HC7.out.2.2.1).mono ?_
      rintro r w8 ⟨rfl, hx8⟩
      have HX8 := Lib.hid (HX7.out.trans hx8)
      have HB8 := Lib.hid (hx8.blk HB7.out)
      have HR8 := Lib.hid (HR7.out.mono hx8.sub)
      have HC8 := Lib.hid (HC7.out.mono hx8.sub)
      clear hx8 HB7 HR7 HC7
      obtain ⟨d0, df⟩ := blk1 HB8.out
      obtain ⟨c0, c1, c2, c3, c4, c5, c6, c7, c8, c9⟩ := HR8.out.ten
      obtain ⟨E1, hE1⟩ : ∃ E1, E1 = nodesErr s l l[k].cond := ⟨_, rfl⟩
      rw [← hE1] at HCE ⊢
      clear hE1
      by_cases hz : E1 = 0
      case neg =>
        have ty : (E1 != 0) = true := by simp [hz]
        have HQ := Lib.hid (HHIT.out E1 (by rw [HCE.out, if_pos hz]) hz)
        clear hz
        go_wp2_with fail
        go_ret2
        exact givesE_cls HQ.out HX8.out
      subst hz
      simp only [ne_eq, not_true_eq_false, if_false] at HCE
      have ty : ((0 : Int) != 0) = false := rfl
      go_wp2_with fail
      go_still_tail 7, (by kernel_rfl)
      change wpList _ _ _ _ _ w8.drew
      have hx9 : Ext w8 w8.drew := (Ext.refl w8).drew
      generalize w8.drew = w9 at hx9 ⊢
      have HX9 := Lib.hid (HX8.out.trans hx9)
      have HB9 := Lib.hid (hx9.blk HB8.out)
      have HR9 := Lib.hid (HR8.out.mono hx9.sub)
      have HC9 := Lib.hid (HC8.out.mono hx9.sub)
      clear hx9 d0 df c0 c1 c2 c3 c4 c5 c6 c7 c8 c9 HB8 HR8 HC8
      go_wp2_with fail
      refine (rbackErr_calls s l HF.out hsl _ n c hn 1000000000000000 l[k].unl _ _ _ _ w9 HOKK.out.2 (by omega) HOKK.out.1.2.2.2.2.1 (HS.out.ext HX9.out) (HL.out.ext HX9.out) HC9.out.2.2.2.2.2.2.1 HC9.out.2.2.2.1).mono ?_
      rintro r wA ⟨rfl, hxA⟩
      have HXA2 := Lib.hid (HX9.out.trans hxA)
      have HBA2 := Lib.hid (hxA.blk HB9.out)
      clear hxA HB9 HR9 HC9
      obtain ⟨E2, hE2⟩ : ∃ E2, E2 = backsErr s l l[k].unl := ⟨_, rfl⟩
      rw [← hE2] at HCE ⊢
      clear hE2
      by_cases hz2 : E2 = 0
      case neg =>
        have tz2 : (E2 != 0) = true := by simp [hz2]
        have HQ := Lib.hid (HHIT.out E2 HCE.out hz2)
        clear hz2
        go_wp2_with fail
        go_ret2
        exact givesE_cls HQ.out HXA2.out
      subst hz2
      go_wp2_with fail
      go_roundw
      case rel =>
        refine ⟨k + 1, by go_num, by omega, fun j hj => ?_, HBA2.out, HXA2.out⟩
        by_cases e' : j = k
        · subst e'; exact HCE.out
        · exact HNO.out j (by omega)
      case measure => simp [intOf]; omega
    · have t1 : decide ((k : Int) < (n : Int)) = false := decide_eq_false (by omega)
      have HNA := Lib.hid (show ∀ j, j < l.length → claErr s l j = 0 from fun j hj => HNO.out j (by have := HN.out; omega))
      have HSZ := Lib.hid (show ∀ x ∈ l, x.cond.size ≤ 100000 by
        intro x hx
        obtain ⟨j, hj, rfl⟩ := List.mem_iff_getElem.1 hx
        exact refExprB_size (clauseB_cond (claErr_valid (HNA.out j hj) hj)))
      clear HNO HBX d0 df
      go_wp2_with fail
      refine (rOrder_calls l a n c wr (HL.out.ext HXR.out) (by omega) HSZ.out).mono ?_
      rintro r w3 ⟨hx3, ⟨hso, oa, on, oc, rfl⟩ | ⟨hso, rfl⟩⟩
      · have HX3 := Lib.hid (HXR.out.trans hx3)
        have HSO := Lib.hid hso
        clear hx3 hso
        go_wp2_with fail
        go_loopw [16] (fun t wr => ∃ k : Nat, t = .int .i64 k ∧ k ≤ n ∧ (∀ j, j < k → claLarge l j = 0) ∧ Ext w wr) (fun t _ => n - (intOf t).toNat)
        case atStart => exact ⟨0, rfl, by omega, fun j h => by omega, HX3.out⟩
        case round =>
          obtain ⟨k2, rfl, hk2, hno, hxr⟩ := hrel
          have HNO := Lib.hid hno
          have HXR2 := Lib.hid hxr
          clear hno hxr HX3 HXR
          by_cases hkn2 : k2 < n
          · have hkl : k2 < l.length := by have := HN.out; omega
            have t2 : decide ((k2 : Int) < (n : Int)) = true := decide_eq_true (by omega)
            obtain ⟨b, off, v, rfl, hcla, hrow⟩ := (HL.out.ext HXR2.out).at hkl
            obtain ⟨c0, c1, c2, c3, c4, c5, c6, c7, c8, c9⟩ := hrow.ten
            have HCLA := Lib.hid hcla
            have HOKK := Lib.hid ((HOK.out _ (List.getElem_mem hkl)).okk (claErr_valid (HNA.out k2 hkl) hkl))
            have ti0 : (0 : Int) ≤ (k2 : Int) := by omega
            have ti1 : (k2 : Int) < (n : Int) := by omega
            have HLG := Lib.hid (show claLarge l k2 = if 2000 < expanded l l[k2].cond ∨ backsLarge l l[k2].unl = true then 4 else 0 by unfold claLarge; rw [getD_cla hkl])
            have HHIT := Lib.hid (fun (h : claLarge l k2 = 4) => HR.out.trans (cls_large HSE.out HM.out HNA.out HSO.out hkl HNO.out h))
            obtain ⟨E, hE⟩ : ∃ E, E = expanded l l[k2].cond := ⟨_, rfl⟩
            have HEE := Lib.hid hE
            rw [← hE] at HLG
            clear hcla hrow hE
            go_wp2_with fail
            refine (rExpanded_calls l _ n c (by omega) (fun x hx => by have := HSZ.out x hx; omega) l[k2].cond _ wr HOKK.out.1.2.2.2.1 (HL.out.ext HXR2.out) HCLA.out.2.2.1).mono ?_
            rw [← HEE.out]
            rintro r w5 ⟨rfl, hx5⟩
            have HX5 := Lib.hid (HXR2.out.trans hx5)
            have c85 := hx5.cell c8
            have HC5 := Lib.hid (HCLA.out.mono hx5.sub)
            clear hx5 c0 c1 c2 c3 c4 c5 c6 c7 c8 c9
            by_cases hz : 2000 < E
            · have tz : decide ((2000 : Int) < (E : Int)) = true := decide_eq_true (by omega)
              have HQ := Lib.hid (HHIT.out (by rw [HLG.out, if_pos (Or.inl hz)]))
              go_wp2_with fail
              go_ret2
              exact givesE_cls HQ.out HX5.out
            · have tz : decide ((2000 : Int) < (E : Int)) = false := decide_eq_false (by omega)
              have HL2 := Lib.hid (show claLarge l k2 = if backsLarge l l[k2].unl = true then 4 else 0 by rw [HLG.out]; simp only [hz, false_or])
              go_wp2_with fail
              refine (rbackLarge_calls l _ n c (by omega) (fun x hx => by have := HSZ.out x hx; omega) 1000000000000000 l[k2].unl _ _ _ w5 HOKK.out.2 (by omega) HOKK.out.1.2.2.2.2.1 (HL.out.ext HX5.out) HC5.out.2.2.2.2.2.2.1 HC5.out.2.2.2.1).mono ?_
              rintro r w6 ⟨rfl, hx6⟩
              have HX6 := Lib.hid (HX5.out.trans hx6)
              clear hx6 c85
              cases hb : backsLarge l l[k2].unl
              · have HZ := Lib.hid (show claLarge l k2 = 0 by rw [HL2.out, hb]; rfl)
                clear hb
                go_wp2_with fail
                go_roundw
                case rel =>
                  refine ⟨k2 + 1, by go_num, by omega, fun j hj => ?_, HX6.out⟩
                  by_cases e' : j = k2
                  · subst e'; exact HZ.out
                  · exact HNO.out j (by omega)
                case measure => simp [intOf]; omega
              · have HQ := Lib.hid (HHIT.out (by rw [HL2.out, hb]; rfl))
                clear hb
                go_wp2_with fail
                go_ret2
                exact givesE_cls HQ.out HX6.out
          · have t2 : decide ((k2 : Int) < (n : Int)) = false := decide_eq_false (by omega)
            have HQ := Lib.hid (HR.out.trans (cls_good HSE.out HM.out HNA.out HSO.out fun j hj => HNO.out j (by have := HN.out; omega)))
            go_wp2_with fail
            go_ret2
            exact givesE_cls (i := 0) HQ.out HXR2.out
      · have HX3 := Lib.hid (HXR.out.trans hx3)
        have HQ := Lib.hid (HR.out.trans (cls_cycle HSE.out HM.out HNA.out hso))
        clear hx3 hso
        go_wp2_with fail
        go_ret2
        exact givesE_cls (i := 0) HQ.out HX3.out
open Go.RowKit Go.Maps
def heldE (v : Value) : Option (DataW Value × List MemPlace) := some (.held v, [])
def HoldsF (D : DataW Value) (f : Lit → Option Value) : Prop := ∀ x, WideAt.IsKeyLit x → Maps.has D x = (f x).isSome ∧ ∀ v, f x = some v → ∀ z, D.atKey x z = .held v
def MapAt (w : World) (k : TypeId) (b n : Nat) (f : Lit → Option Value) : Prop := ∃ D : DataW Value, w.ownsMap Tryz.prog k heldE b n D ∧ HoldsF D f
open Classical in
noncomputable def setF (f : Lit → Option Value) (x : Lit) (v : Option Value) : Lit → Option Value := fun y => if y = x then v else f y
theorem setF_same (f : Lit → Option Value) (x : Lit) (v : Option Value) : setF f x v x = v := by simp [setF]
theorem setF_other (f : Lit → Option Value) {x y : Lit} (v : Option Value) (h : y ≠ x) : setF f x v y = f y := by simp [setF, h]
theorem MapAt.made (w : World) (k : TypeId) : MapAt (w.alloc (.map #[] 0)) k w.heap.size 0 (fun _ => none) :=
  ⟨.map [], World.ownsMap_made w _ k heldE, fun x _ => ⟨rfl, fun v h => by cases h⟩⟩
theorem MapAt.lt {w : World} {k : TypeId} {b n : Nat} {f : Lit → Option Value} (h : MapAt w k b n f) : b < w.heap.size := by obtain ⟨D, h, _⟩ := h; exact h.lt
theorem MapAt.more {w : World} {k : TypeId} {b n n' : Nat} {f : Lit → Option Value} (h : MapAt w k b n f) (hn : n ≤ n') : MapAt w k b n' f := by obtain ⟨D, h, hs⟩ := h; exact ⟨D, h.mono hn, hs⟩
theorem MapAt.chg {w w' : World} {k : TypeId} {b n : Nat} {f : Lit → Option Value} {N : List Nat} (h : MapAt w k b n f) (hc : Chg N w w') (hn : b ∉ N) : MapAt w' k b n f := by
  have hlt := h.lt
  obtain ⟨D, ⟨es, clock, hb, r⟩, hs⟩ := h
  exact ⟨D, ⟨es, clock, (hc.block b hlt hn).trans hb, r⟩, hs⟩
theorem MapAt.ext {w w' : World} {k : TypeId} {b n : Nat} {f : Lit → Option Value} (h : MapAt w k b n f) (he : Ext w w') : MapAt w' k b n f := h.chg (he.chg []) (by simp)
theorem MapAt.congr {w : World} {k : TypeId} {b n : Nat} {f g : Lit → Option Value} (h : MapAt w k b n f) (e : ∀ x, f x = g x) : MapAt w k b n g := by rw [show g = f from funext fun x => (e x).symm]; exact h
theorem grown_one {w w' : World} {b : Nat} (h : w.grownBy w' (some b)) : Chg [b] w w' := ⟨h.os, h.tape, h.output, h.size, fun k hk hn => h.block k hk (fun e => hn (by simp at e; simp [e]))⟩
theorem HoldsF.at {D : DataW Value} {f : Lit → Option Value} (h : HoldsF D f) {x : Lit} (hx : WideAt.IsKeyLit x) {v z : Value} (hv : DataW.held v = D.atKey x (.held z)) : v = (f x).getD z := by
  obtain ⟨h1, h2⟩ := h x hx
  cases hf : f x with
  | none =>
    rw [hf] at h1
    rw [atKey_of_not_has h1] at hv
    simpa using hv
  | some u =>
    rw [h2 u hf] at hv
    simpa using hv
theorem HoldsF.put {D : DataW Value} {f : Lit → Option Value} (h : HoldsF D f) (hD : IsMap D) {x : Lit} (hx : WideAt.IsKeyLit x) (v : Value) : HoldsF (D.put x (.held v)) (setF f x (some v)) := by
  intro y hy
  by_cases e : y = x
  · subst e
    rw [setF_same]
    refine ⟨by rw [has_put_same hD hx]; rfl, fun u hu z => ?_⟩
    rw [atKey_put_same hD hx]
    cases hu; rfl
  · rw [setF_other _ _ e]
    refine ⟨by rw [has_put_other e]; exact (h y hy).1, fun u hu z => ?_⟩
    rw [atKey_put_other e]
    exact (h y hy).2 u hu z
theorem HoldsF.del {D : DataW Value} {f : Lit → Option Value} (h : HoldsF D f) {x : Lit} (hx : WideAt.IsKeyLit x) : HoldsF (D.del x) (setF f x none) := by
  intro y hy
  by_cases e : y = x
  · subst e
    rw [setF_same]
    exact ⟨by rw [has_del_same]; rfl, fun u hu => by cases hu⟩
  · rw [setF_other _ _ e]
    refine ⟨by rw [has_del_other e]; exact (h y hy).1, fun u hu z => ?_⟩
    rw [atKey_del_other e]
    exact (h y hy).2 u hu z
theorem HoldsF.size {D : DataW Value} {f : Lit → Option Value} (h : HoldsF D f) {es : List (Lit × DataW Value)} (hD : D = .map es) (hk : ∀ p ∈ es, WideAt.IsKeyLit p.1) : Maps.size D = 0 ↔ ∀ x, WideAt.IsKeyLit x → f x = none := by
  subst hD
  rw [size_eq]
  constructor
  · intro h0 x hx
    have := (h x hx).1
    rw [List.eq_nil_of_length_eq_zero h0] at this
    cases hf : f x with
    | none => rfl
    | some u => rw [hf] at this; simp [has_eq] at this
  · intro h0
    cases es with
    | nil => rfl
    | cons p r =>
      have hp := hk p (by simp)
      have := (h p.1 hp).1
      rw [h0 p.1 hp, has_eq] at this
      simp [WideAt.sameKey_self hp] at this
section
variable (w : World) {ops : Array Oper} {rest : List Oper} {o : Oper} {a : Act} {Q : Exit → Act → World → Prop}
theorem wpList_map_ok (hg : o.guard = none) (m x : Operand) (t : TypeId) (hop : o.op = Op.lookup t m x true) (k e : TypeId) (K : Keyed Tryz.prog k) (ht : Tryz.prog.underlying t = some (.map k e)) {z : Value} (hz : (zeroValue e).run Tryz.prog w = .ok z w) (b n : Nat) (f : Lit → Option Value)
    (hm : a.eval m = .map (some b)) (hmap : MapAt w k b n f) (key : Value) (kl : Lit) (hx : a.eval x = key) (hkey : keyOf Tryz.prog k key = some kl) (hkl : WideAt.IsKeyLit kl)
    (hK : wpList Tryz.prog ops Q rest (a.put o.dst (.tuple #[(f kl).getD z, .bool (f kl).isSome])) w) : wpList Tryz.prog ops Q (o :: rest) a w := by
  obtain ⟨D, hown, hf⟩ := hmap
  refine wpList_lookup_own_ok w hg m x t hop k e K ht heldE hz (.held z) [] rfl b n D hm hown key kl hx hkey fun v ps hv => ?_
  have e1 : DataW.held v = D.atKey kl (.held z) := by
    simp only [heldE, Option.some.injEq, Prod.mk.injEq] at hv
    exact hv.1
  rw [hf.at hkl e1, (hf kl hkl).1]
  exact hK
theorem wpList_map_get (hg : o.guard = none) (m x : Operand) (t : TypeId) (hop : o.op = Op.lookup t m x false) (k e : TypeId) (K : Keyed Tryz.prog k) (ht : Tryz.prog.underlying t = some (.map k e)) {z : Value} (hz : (zeroValue e).run Tryz.prog w = .ok z w) (b n : Nat) (f : Lit → Option Value)
    (hm : a.eval m = .map (some b)) (hmap : MapAt w k b n f) (key : Value) (kl : Lit) (hx : a.eval x = key) (hkey : keyOf Tryz.prog k key = some kl) (hkl : WideAt.IsKeyLit kl)
    (hK : wpList Tryz.prog ops Q rest (a.put o.dst ((f kl).getD z)) w) : wpList Tryz.prog ops Q (o :: rest) a w := by
  obtain ⟨D, hown, hf⟩ := hmap
  refine wpList_plain hg fun K' hK' => ?_
  obtain ⟨v, ps, hrun, hv⟩ := hown.lookup K ht hz (zd := .held z) (zp := []) rfl hkey
  have e1 : DataW.held v = D.atKey kl (.held z) := by
    simp only [heldE, Option.some.injEq, Prod.mk.injEq] at hv
    exact hv.1
  rw [← hf.at hkl e1] at hK
  unfold Oper.wp
  simp [execOp, hop, hm, hx, hrun, Result.andThen]
  exact hK' _ _ hK
theorem wpList_map_put (hg : o.guard = none) (m x v : Operand) (t : TypeId) (hop : o.op = Op.mapUpdate t m x v) (k e : TypeId) (K : Keyed Tryz.prog k) (ht : Tryz.prog.underlying t = some (.map k e)) (b n : Nat) (f : Lit → Option Value)
    (hm : a.eval m = .map (some b)) (hmap : MapAt w k b n f) (hn : n < maxLen) (key val : Value) (kl : Lit) (hx : a.eval x = key) (hv : a.eval v = val) (hkey : keyOf Tryz.prog k key = some kl) (hkl : WideAt.IsKeyLit kl)
    (hK : ∀ w', MapAt w' k b (n + 1) (setF f kl (some val)) → Chg [b] w w' → wpList Tryz.prog ops Q rest (a.put o.dst undef) w') : wpList Tryz.prog ops Q (o :: rest) a w := by
  obtain ⟨D, hown, hf⟩ := hmap
  refine wpList_mapUpdate_own w hg m x v t hop k e K ht heldE b n D hm hown hn key val kl hx hv hkey (.held val) [] rfl fun w' h1 h2 => ?_
  exact hK w' ⟨_, h1, hf.put hown.isMap hkl val⟩ (grown_one h2)
theorem wpList_map_del (hg : o.guard = none) (m x : Operand) (t k : TypeId) (hop : o.op = Op.call { callee := Callee.builtin Builtin.delete, args := #[m, x], argTypes := #[t, k] }) (e : TypeId) (K : Keyed Tryz.prog k) (ht : Tryz.prog.underlying t = some (.map k e)) (b n : Nat) (f : Lit → Option Value)
    (hm : a.eval m = .map (some b)) (hmap : MapAt w k b n f) (key : Value) (kl : Lit) (hx : a.eval x = key) (hkey : keyOf Tryz.prog k key = some kl) (hkl : WideAt.IsKeyLit kl)
    (hK : ∀ w', MapAt w' k b n (setF f kl none) → Chg [b] w w' → wpList Tryz.prog ops Q rest (a.put o.dst (.tuple #[])) w') : wpList Tryz.prog ops Q (o :: rest) a w := by
  obtain ⟨D, hown, hf⟩ := hmap
  refine wpList_delete_own w hg m x t k hop e K ht heldE b n D hm hown key kl hx hkey fun w' h1 h2 => ?_
  exact hK w' ⟨_, h1, hf.del hkl⟩ (grown_one h2.grown)
theorem wpList_map_len (hg : o.guard = none) (m : Operand) (t : TypeId) (hop : o.op = Op.call { callee := Callee.builtin Builtin.len, args := #[m], argTypes := #[t] }) (k e : TypeId) (K : Keyed Tryz.prog k) (ht : Tryz.prog.underlying t = some (.map k e)) (b n : Nat) (f : Lit → Option Value)
    (hm : a.eval m = .map (some b)) (hmap : MapAt w k b n f)
    (hK : ∀ s : Nat, s ≤ n → (s = 0 ↔ ∀ x, WideAt.IsKeyLit x → f x = none) → wpList Tryz.prog ops Q rest (a.put o.dst (.int .i64 s)) w) : wpList Tryz.prog ops Q (o :: rest) a w := by
  obtain ⟨D, hown, hf⟩ := hmap
  refine wpList_len_own w hg m t hop k e ht heldE b n D hm hown ?_
  obtain ⟨es, hes, _, hk⟩ := hown.entries K
  exact hK _ hown.size_le (hf.size hes hk)
end
open Go.RowKit
theorem pile_cell {e : TypeId} {g : Nat} {cur : Array Value} {xs : List Int} {w : World} (hg : w.heap[g]? = some (.cells cur e (0, 0))) (h4 : cur.toList.take xs.length = xs.map fun z => Value.int .i64 z) {i : Nat} (hi : i < xs.length) : w.cell? ⟨g, i, none⟩ = some (.int .i64 xs[i]) ∧ w.frozen? ⟨g, i, none⟩ = false := by
  have h5 : (cur.toList.take xs.length)[i]? = some (.int .i64 xs[i]) := by rw [h4]; simp [hi]
  rw [List.getElem?_take, if_pos hi] at h5
  refine ⟨?_, Lib.frozen_of_heap hg i⟩
  rw [Lib.cell_of_heap hg]
  simpa using h5
open Go.RowKit
theorem meth_push (n b : Nat) (w : World) : (method (n + 1) 130 (.pointer (some ⟨b, 0, none⟩)) "Push").run Tryz.prog w = .ok (179, .pointer (some ⟨b, 0, none⟩)) w := by kernel_rfl
theorem meth_pop (n b : Nat) (w : World) : (method (n + 1) 130 (.pointer (some ⟨b, 0, none⟩)) "Pop").run Tryz.prog w = .ok (178, .pointer (some ⟨b, 0, none⟩)) w := by kernel_rfl
theorem meth_len (n b : Nat) (v : Value) (w : World) (h : w.cell? ⟨b, 0, none⟩ = some v) : (method (n + 1) 130 (.pointer (some ⟨b, 0, none⟩)) "Len").run Tryz.prog w = .ok (96, v) w := by
  have e : (method (n + 1) 130 (.pointer (some ⟨b, 0, none⟩)) "Len").run Tryz.prog w = (loadVar 131 ⟨b, 0, none⟩ >>= fun v => pure (96, v)).run Tryz.prog w := by kernel_rfl
  rw [e]
  simp [loadVar, go_sem, h]
theorem meth_less (n b : Nat) (v : Value) (w : World) (h : w.cell? ⟨b, 0, none⟩ = some v) : (method (n + 1) 130 (.pointer (some ⟨b, 0, none⟩)) "Less").run Tryz.prog w = .ok (177, v) w := by
  have e : (method (n + 1) 130 (.pointer (some ⟨b, 0, none⟩)) "Less").run Tryz.prog w = (loadVar 131 ⟨b, 0, none⟩ >>= fun v => pure (177, v)).run Tryz.prog w := by kernel_rfl
  rw [e]
  simp [loadVar, go_sem, h]
theorem meth_swap (n b : Nat) (v : Value) (w : World) (h : w.cell? ⟨b, 0, none⟩ = some v) : (method (n + 1) 130 (.pointer (some ⟨b, 0, none⟩)) "Swap").run Tryz.prog w = .ok (181, v) w := by
  have e : (method (n + 1) 130 (.pointer (some ⟨b, 0, none⟩)) "Swap").run Tryz.prog w = (loadVar 131 ⟨b, 0, none⟩ >>= fun v => pure (181, v)).run Tryz.prog w := by kernel_rfl
  rw [e]
  simp [loadVar, go_sem, h]
theorem ahead_len (n b : Nat) (w : World) : (nilAhead (n + 1) 130 (.pointer (some ⟨b, 0, none⟩)) "Len").run Tryz.prog w = .ok (some false) w := by kernel_rfl
theorem ahead_less (n b : Nat) (w : World) : (nilAhead (n + 1) 130 (.pointer (some ⟨b, 0, none⟩)) "Less").run Tryz.prog w = .ok (some false) w := by kernel_rfl
theorem ahead_swap (n b : Nat) (w : World) : (nilAhead (n + 1) 130 (.pointer (some ⟨b, 0, none⟩)) "Swap").run Tryz.prog w = .ok (some false) w := by kernel_rfl
theorem ahead_push (n b : Nat) (w : World) : (nilAhead (n + 1) 130 (.pointer (some ⟨b, 0, none⟩)) "Push").run Tryz.prog w = .ok (some false) w := by kernel_rfl
theorem ahead_pop (n b : Nat) (w : World) : (nilAhead (n + 1) 130 (.pointer (some ⟨b, 0, none⟩)) "Pop").run Tryz.prog w = .ok (some false) w := by kernel_rfl
theorem ilen_calls (a : Option Addr) (n c : Nat) (w : World) : Calls Tryz.prog 96 #[.slice a n c] w (Gives (.int .i64 n) w) := by
  go_enter Tryz.func96, Tryz.ntmps96
  go_wp2_with fail
  go_ret
  exact ⟨rfl, rfl⟩
theorem iless_calls (g n c i j : Nat) (x y : Int) (w : World) (hi : i < n) (hj : j < n) (h1 : w.cell? ⟨g, i, none⟩ = some (.int .i64 x)) (h2 : w.cell? ⟨g, j, none⟩ = some (.int .i64 y)) :
    Calls Tryz.prog 177 #[.slice (some ⟨g, 0, none⟩) n c, .int .i64 i, .int .i64 j] w (GivesE (.bool (decide (x < y))) w) := by
  go_enter Tryz.func177, Tryz.ntmps177
  go_upto_region 1 with fail
  go_quiet (fail)
  go_wp2_with fail
  go_ret
  exact ⟨rfl, Ext.drewN (Ext.refl _) _⟩
open Go.RowKit
def tabS (g n c i j : Nat) (x y : Int) : List Value :=
  [.slice (some ⟨g, 0, none⟩) n c, .int .i64 i, .slice (some ⟨g, 0, none⟩) n c, .int .i64 j, .slice (some ⟨g, 0, none⟩) n c, .int .i64 j, .pointer (some ⟨g, j, none⟩), .int .i64 y, .slice (some ⟨g, 0, none⟩) n c, .int .i64 i, .pointer (some ⟨g, i, none⟩), .int .i64 x, .pointer (some ⟨g, i, none⟩), undef, .pointer (some ⟨g, j, none⟩)]
def RS (tab : List Value) (i : Nat) (u : Value) (_ : World) : Prop := u = tab.getD i undef
def GS (w w1 : World) (L : List Nat) (W : World) : Prop := (13 ∉ L → ∃ k, W = w.drewN k) ∧ (13 ∈ L → ∃ k, W = w1.drewN k)
def ES (_ : Nat) (_ _ : World) : Prop := True
theorem GS.plain {w w1 : World} {L : List Nat} {W : World} (h : GS w w1 L W) {i : Nat} (hi : i ≠ 13) : GS w w1 (L ++ [i]) W := by
  have hm : 13 ∈ L ++ [i] ↔ 13 ∈ L := by simp; omega
  unfold GS
  rw [hm]; exact h
theorem swap_before {ops : Array Oper} {m : Nat} {L : List Nat} {i : Nat} (hg : (13 == i || comesAfter ops m 13 i) = true) (hi : i ∉ L) (hL : ∀ j ∈ L, comesAfter ops m j i = false) : 13 ∉ L := by
  intro h
  rw [hL 13 h] at hg
  simp only [Bool.or_false, beq_iff_eq] at hg
  exact hi (hg ▸ h)
set_option maxRecDepth 100000 in
set_option maxHeartbeats 1000000 in
theorem iswap_calls (g n c i j : Nat) (x y : Int) (w : World) (hi : i < n) (hj : j < n) (h1 : w.cell? ⟨g, i, none⟩ = some (.int .i64 x)) (h2 : w.cell? ⟨g, j, none⟩ = some (.int .i64 y)) (hf : ∀ k, w.frozen? ⟨g, k, none⟩ = false) :
    Calls Tryz.prog 181 #[.slice (some ⟨g, 0, none⟩) n c, .int .i64 i, .int .i64 j] w (fun e w' => e = .returned (.tuple #[]) ∧ ∃ k, w' = ((w.setCell ⟨g, i, none⟩ (.int .i64 y)).setCell ⟨g, j, none⟩ (.int .i64 x)).drewN k) := by
  go_enter Tryz.func181, Tryz.ntmps181
  go_upto_region 0 with fail
  refine wp_region_growL (m := 15) [11, 14] (GS w (w.setCell ⟨g, i, none⟩ (.int .i64 y))) ES (RS (tabS g n c i j x y)) (by kernel_rfl) (by kernel_rfl) ⟨fun _ => ⟨1, rfl⟩, fun h => by simp at h⟩ (fun _ _ _ _ _ _ _ _ _ hR _ => hR) ?_ ?_
  · intro q o hq ho L vs W hiL hnc hG hd ρ hρ
    have hq' : q = 0 ∨ q = 1 ∨ q = 2 ∨ q = 3 ∨ q = 4 ∨ q = 5 ∨ q = 6 ∨ q = 7 ∨ q = 8 ∨ q = 9 ∨ q = 10 ∨ q = 11 ∨ q = 12 ∨ q = 13 ∨ q = 14 := by omega
    clear hq
    have o0 : ρ (.tmp 0) = .slice (some ⟨g, 0, none⟩) n c := hρ.out 0 rfl
    have o1 : ρ (.tmp 1) = .int .i64 i := hρ.out 1 rfl
    have o2 : ρ (.tmp 2) = .int .i64 j := hρ.out 2 rfl
    have hcs := hρ.const
    have HG := Lib.hid hG
    clear hG
    rcases hq' with rfl | rfl | rfl | rfl | rfl | rfl | rfl | rfl | rfl | rfl | rfl | rfl | rfl | rfl | rfl
    · cases ho
      clear hρ hd
      unfold GivesOp
      go_simp
      exact ⟨trivial, HG.out.plain (by omega), rfl⟩
    · cases ho
      clear hρ hd
      unfold GivesOp
      go_simp
      exact ⟨trivial, HG.out.plain (by omega), rfl⟩
    · cases ho
      clear hρ hd
      unfold GivesOp
      go_simp
      exact ⟨trivial, HG.out.plain (by omega), rfl⟩
    · cases ho
      clear hρ hd
      unfold GivesOp
      go_simp
      exact ⟨trivial, HG.out.plain (by omega), rfl⟩
    · cases ho
      clear hρ hd
      unfold GivesOp
      go_simp
      exact ⟨trivial, HG.out.plain (by omega), rfl⟩
    · cases ho
      clear hρ hd
      unfold GivesOp
      go_simp
      exact ⟨trivial, HG.out.plain (by omega), rfl⟩
    · cases ho
      have i4 := hρ.ins 4 10 (by omega) rfl (Nat.le_of_ble_eq_true rfl)
      have d4 : vs 4 = _ := hd ⟨4, .data⟩ (by simp) rfl
      rw [d4] at i4
      dsimp only [tabS, List.getD_cons_zero, List.getD_cons_succ] at i4
      have i5 := hρ.ins 5 11 (by omega) rfl (Nat.le_of_ble_eq_true rfl)
      have d5 : vs 5 = _ := hd ⟨5, .data⟩ (by simp) rfl
      rw [d5] at i5
      dsimp only [tabS, List.getD_cons_zero, List.getD_cons_succ] at i5
      clear hρ hd
      unfold GivesOp
      go_simp
      exact ⟨trivial, HG.out.plain (by omega), rfl⟩
    · cases ho
      have i6 := hρ.ins 6 12 (by omega) rfl (Nat.le_of_ble_eq_true rfl)
      have d6 : vs 6 = _ := hd ⟨6, .data⟩ (by simp) rfl
      rw [d6] at i6
      dsimp only [tabS, List.getD_cons_zero, List.getD_cons_succ] at i6
      obtain ⟨kw, rfl⟩ := HG.out.1 (swap_before (by decide +kernel) hiL hnc)
      have c1 : (w.drewN kw).cell? ⟨g, i, none⟩ = some (.int .i64 x) := h1
      have c2 : (w.drewN kw).cell? ⟨g, j, none⟩ = some (.int .i64 y) := h2
      have cf : ∀ k, (w.drewN kw).frozen? ⟨g, k, none⟩ = false := hf
      clear hρ hd
      unfold GivesOp
      go_simp
      exact ⟨trivial, HG.out.plain (by omega), rfl⟩
    · cases ho
      clear hρ hd
      unfold GivesOp
      go_simp
      exact ⟨trivial, HG.out.plain (by omega), rfl⟩
    · cases ho
      clear hρ hd
      unfold GivesOp
      go_simp
      exact ⟨trivial, HG.out.plain (by omega), rfl⟩
    · cases ho
      have i8 := hρ.ins 8 14 (by omega) rfl (Nat.le_of_ble_eq_true rfl)
      have d8 : vs 8 = _ := hd ⟨8, .data⟩ (by simp) rfl
      rw [d8] at i8
      dsimp only [tabS, List.getD_cons_zero, List.getD_cons_succ] at i8
      have i9 := hρ.ins 9 15 (by omega) rfl (Nat.le_of_ble_eq_true rfl)
      have d9 : vs 9 = _ := hd ⟨9, .data⟩ (by simp) rfl
      rw [d9] at i9
      dsimp only [tabS, List.getD_cons_zero, List.getD_cons_succ] at i9
      clear hρ hd
      unfold GivesOp
      go_simp
      exact ⟨trivial, HG.out.plain (by omega), rfl⟩
    · cases ho
      have i10 := hρ.ins 10 16 (by omega) rfl (Nat.le_of_ble_eq_true rfl)
      have d10 : vs 10 = _ := hd ⟨10, .data⟩ (by simp) rfl
      rw [d10] at i10
      dsimp only [tabS, List.getD_cons_zero, List.getD_cons_succ] at i10
      obtain ⟨kw, rfl⟩ := HG.out.1 (swap_before (by decide +kernel) hiL hnc)
      have c1 : (w.drewN kw).cell? ⟨g, i, none⟩ = some (.int .i64 x) := h1
      have c2 : (w.drewN kw).cell? ⟨g, j, none⟩ = some (.int .i64 y) := h2
      have cf : ∀ k, (w.drewN kw).frozen? ⟨g, k, none⟩ = false := hf
      clear hρ hd
      unfold GivesOp
      go_simp
      exact ⟨trivial, HG.out.plain (by omega), rfl⟩
    · cases ho
      have i0 := hρ.ins 0 6 (by omega) rfl (Nat.le_of_ble_eq_true rfl)
      have d0 : vs 0 = _ := hd ⟨0, .data⟩ (by simp) rfl
      rw [d0] at i0
      dsimp only [tabS, List.getD_cons_zero, List.getD_cons_succ] at i0
      have i1 := hρ.ins 1 7 (by omega) rfl (Nat.le_of_ble_eq_true rfl)
      have d1 : vs 1 = _ := hd ⟨1, .data⟩ (by simp) rfl
      rw [d1] at i1
      dsimp only [tabS, List.getD_cons_zero, List.getD_cons_succ] at i1
      clear hρ hd
      unfold GivesOp
      go_simp
      exact ⟨trivial, HG.out.plain (by omega), rfl⟩
    · cases ho
      have i12 := hρ.ins 12 18 (by omega) rfl (Nat.le_of_ble_eq_true rfl)
      have d12 : vs 12 = _ := hd ⟨12, .data⟩ (by simp) rfl
      rw [d12] at i12
      dsimp only [tabS, List.getD_cons_zero, List.getD_cons_succ] at i12
      have i7 := hρ.ins 7 13 (by omega) rfl (Nat.le_of_ble_eq_true rfl)
      have d7 : vs 7 = _ := hd ⟨7, .data⟩ (by simp) rfl
      rw [d7] at i7
      dsimp only [tabS, List.getD_cons_zero, List.getD_cons_succ] at i7
      obtain ⟨kw, rfl⟩ := HG.out.1 (swap_before (by decide +kernel) hiL hnc)
      have c1 : (w.drewN kw).cell? ⟨g, i, none⟩ = some (.int .i64 x) := h1
      have c2 : (w.drewN kw).cell? ⟨g, j, none⟩ = some (.int .i64 y) := h2
      have cf : ∀ k, (w.drewN kw).frozen? ⟨g, k, none⟩ = false := hf
      clear hρ hd
      unfold GivesOp
      go_simp
      exact ⟨trivial, ⟨fun h => absurd (by simp) h, fun _ => ⟨kw, rfl⟩⟩, rfl⟩
    · cases ho
      have i2 := hρ.ins 2 8 (by omega) rfl (Nat.le_of_ble_eq_true rfl)
      have d2 : vs 2 = _ := hd ⟨2, .data⟩ (by simp) rfl
      rw [d2] at i2
      dsimp only [tabS, List.getD_cons_zero, List.getD_cons_succ] at i2
      have i3 := hρ.ins 3 9 (by omega) rfl (Nat.le_of_ble_eq_true rfl)
      have d3 : vs 3 = _ := hd ⟨3, .data⟩ (by simp) rfl
      rw [d3] at i3
      dsimp only [tabS, List.getD_cons_zero, List.getD_cons_succ] at i3
      clear hρ hd
      unfold GivesOp
      go_simp
      exact ⟨trivial, HG.out.plain (by omega), rfl⟩
  · intro L vs W hall hG hR
    rw [if_neg (by decide +kernel)]
    have r11 : vs 11 = .int .i64 x := hR 11 (by simp) (by omega)
    have r14 : vs 14 = .pointer (some ⟨g, j, none⟩) := hR 14 (by simp) (by omega)
    obtain ⟨kw, rfl⟩ := hG.2 (hall 13 (by omega))
    have c2 : ∃ u, ((w.setCell ⟨g, i, none⟩ (.int .i64 y)).drewN kw).cell? ⟨g, j, none⟩ = some u := by
      by_cases e : i = j
      · subst e
        exact ⟨_, World.cell?_setCell_same' w ⟨g, i, none⟩ (.int .i64 y) (by simp [h1])⟩
      · exact ⟨_, (World.cell?_setCell_other w _ _ _ (by simp only [ne_eq, Addr.mk.injEq, true_and, and_true]; omega)).trans h2⟩
    obtain ⟨u, c2⟩ := c2
    have cf : ((w.setCell ⟨g, i, none⟩ (.int .i64 y)).drewN kw).frozen? ⟨g, j, none⟩ = false := (World.frozen?_setCell _ _ _ _).trans (hf j)
    clear hG hall hR
    unfold wpOp
    simp only [acts, dstAt, List.range, List.range.loop, List.foldl_cons, List.foldl_nil, r11, r14]
    go_simp
    refine Or.inl ?_
    go_wp2_with fail
    go_end0
    exact ⟨rfl, kw, rfl⟩
open Go.RowKit
structure PileG (B b g cap : Nat) (xs : List Int) (w : World) : Prop where
  hB : B ≤ b
  hg : B ≤ g
  hgb : g ≠ b
  hb : w.heap[b]? = some (.cells #[.slice (some ⟨g, 0, none⟩) xs.length cap] 133 (0, 0))
  row : ∃ cur : Array Value, w.heap[g]? = some (.cells cur 3 (0, 0)) ∧ xs.length ≤ cap ∧ cap ≤ maxLen ∧ cur.size = cap ∧ cur.toList.take xs.length = xs.map fun z => Value.int .i64 z
theorem PileG.cell {B b g cap : Nat} {xs : List Int} {w : World} (h : PileG B b g cap xs w) {i : Nat} (hi : i < xs.length) : w.cell? ⟨g, i, none⟩ = some (.int .i64 xs[i]) := by
  obtain ⟨cur, h1, _, _, _, h5⟩ := h.row
  exact (pile_cell h1 h5 hi).1
theorem PileG.free {B b g cap : Nat} {xs : List Int} {w : World} (h : PileG B b g cap xs w) (i : Nat) : w.frozen? ⟨g, i, none⟩ = false := by
  obtain ⟨cur, h1, _⟩ := h.row
  exact Lib.frozen_of_heap h1 i
theorem PileG.head {B b g cap : Nat} {xs : List Int} {w : World} (h : PileG B b g cap xs w) : w.cell? ⟨b, 0, none⟩ = some (.slice (some ⟨g, 0, none⟩) xs.length cap) := blk_cell h.hb 0
theorem PileG.chg {B b g cap : Nat} {xs : List Int} {w w' : World} {N : List Nat} (h : PileG B b g cap xs w) (hc : Chg N w w') (h1 : b ∉ N) (h2 : g ∉ N) : PileG B b g cap xs w' := by
  obtain ⟨a1, a2, a3, a4, cur, a5, r⟩ := h
  exact ⟨a1, a2, a3, hc.blk a4 h1, cur, hc.blk a5 h2, r⟩
theorem PileG.ext {B b g cap : Nat} {xs : List Int} {w w' : World} (h : PileG B b g cap xs w) (hx : Ext w w') : PileG B b g cap xs w' := h.chg (hx.chg []) (by simp) (by simp)
theorem PileG.set {B b g cap : Nat} {xs : List Int} {w : World} (h : PileG B b g cap xs w) (i : Nat) (z : Int) : PileG B b g cap (xs.set i z) (w.setCell ⟨g, i, none⟩ (.int .i64 z)) := by
  obtain ⟨a1, a2, a3, a4, cur, a5, a6, a7, a8, a9⟩ := h
  refine ⟨a1, a2, a3, ?_, cur.setIfInBounds i (.int .i64 z), ?_, by simpa using a6, a7, by simpa using a8, ?_⟩
  · rw [Below.heap_setCell _ _ _ _ (by simpa using fun h => a3 h.symm)]; simpa using a4
  · simp [World.setCell, Array.getElem?_modify, a5]
  · simp only [Array.toList_setIfInBounds, List.length_set]
    rw [List.take_set, a9, List.map_set]
theorem PileG.swap {B b g cap : Nat} {xs : List Int} {w : World} (h : PileG B b g cap xs w) {i j : Nat} (hi : i < xs.length) (hj : j < xs.length) (k : Nat) :
    PileG B b g cap ((xs.set i xs[j]).set j xs[i]) (((w.setCell ⟨g, i, none⟩ (.int .i64 xs[j])).setCell ⟨g, j, none⟩ (.int .i64 xs[i])).drewN k) ∧ Chg [g] w (((w.setCell ⟨g, i, none⟩ (.int .i64 xs[j])).setCell ⟨g, j, none⟩ (.int .i64 xs[i])).drewN k) :=
  ⟨((h.set i xs[j]).set j xs[i]).ext ((Ext.refl _).drewN k), (((Chg.refl [g] w).setCell (Or.inl (by simp)) _).setCell (Or.inl (by simp)) _).drewN k⟩
def PermQ (v : Value) (B b g cap : Nat) (xs : List Int) (w : World) (e : Ending) (w' : World) : Prop := e = .returned v ∧ ∃ ys : List Int, ys.Perm xs ∧ PileG B b g cap ys w' ∧ Chg [g] w w'
set_option maxRecDepth 100000 in
theorem up_calls (B b g cap : Nat) (xs : List Int) (w : World) (h : PileG B b g cap xs w) (j : Nat) (hj : j < xs.length) :
    Calls Tryz.prog 117 #[.iface 130 (.pointer (some ⟨b, 0, none⟩)), .int .i64 j] w (PermQ (.tuple #[]) B b g cap xs w) := by
  obtain ⟨cur, hr1, hr2, hr3, hr4, hr5⟩ := h.row
  have hlen : xs.length ≤ 9223372036854775807 := by unfold maxLen at hr3; omega
  have HP := Lib.hid h
  clear hr1 hr2 hr3 hr4 hr5 cur h
  go_enter Tryz.func117, Tryz.ntmps117
  go_wp2_with fail
  go_loopw [1, 4] (fun t _ wr => ∃ (k : Nat) (ys : List Int), t = .int .i64 k ∧ k < ys.length ∧ ys.length = xs.length ∧ ys.Perm xs ∧ PileG B b g cap ys wr ∧ Chg [g] w wr) (fun t _ _ => (intOf t).toNat)
  case atStart => exact ⟨j, xs, rfl, hj, rfl, List.Perm.refl _, HP.out, Chg.refl _ _⟩
  case round =>
    obtain ⟨k, ys, rfl, hk, hyl, hyp, hpl, hch⟩ := hrel
    have HPL := Lib.hid hpl
    have HC := Lib.hid hch
    have HY := Lib.hid hyp
    have HYL := Lib.hid hyl
    have hhead := hpl.head
    have hkl : k ≤ 9223372036854775807 := by omega
    clear hpl hch hyp hyl HP
    have ha := fun n => ahead_less n b
    have hm := fun n => meth_less n b _ wr hhead
    by_cases hk0 : k = 0
    · subst hk0
      go_wp2_with fail
      go_end0
      exact ⟨rfl, ys, HY.out, HPL.out, HC.out⟩
    · obtain ⟨p, hp⟩ : ∃ p : Nat, p = (k - 1) / 2 := ⟨_, rfl⟩
      have q1 : ((k : Int) - 1).tdiv 2 = (p : Int) := by
        rw [Int.tdiv_eq_ediv_of_nonneg (by omega)]
        omega
      have hpk : p < k := by omega
      have hpy : p < ys.length := by omega
      have t0 : ((p : Int) == (k : Int)) = false := by simp; omega
      have HHP := Lib.hid hp
      clear hp hk0
      have L := iless_calls g ys.length cap k p ys[k] ys[p] wr hk hpy (HPL.out.cell hk) (HPL.out.cell hpy)
      have HL := Lib.hid L
      clear L
      cases hd : decide (ys[k] < ys[p])
      all_goals
        have HD := Lib.hid hd
        clear hd
        go_wp2_with fail
        refine HL.out.mono ?_
        rintro r w1 ⟨rfl, hx1⟩
        rw [HD.out]
        have HX1 := Lib.hid hx1
        have hh1 := (HPL.out.ext hx1).head
        clear hx1 hm ha hhead
        have ha := fun n => ahead_swap n b
        have hm := fun n => meth_swap n b _ w1 hh1
        go_wp2_with fail
      · go_end0
        exact ⟨rfl, ys, HY.out, HPL.out.ext HX1.out, HC.out.then (HX1.out.chg _)⟩
      · refine (iswap_calls g ys.length cap p k ys[p] ys[k] _ hpy hk ((HPL.out.ext HX1.out).cell hpy) ((HPL.out.ext HX1.out).cell hk) (HPL.out.ext HX1.out).free).mono ?_
        rintro r w2 ⟨rfl, q, rfl⟩
        obtain ⟨hp2, hc2⟩ := (HPL.out.ext HX1.out).swap hpy hk q
        have HP2 := Lib.hid hp2
        have HC2 := Lib.hid hc2
        clear hp2 hc2
        generalize ((w1.setCell ⟨g, p, none⟩ (.int .i64 ys[k])).setCell ⟨g, k, none⟩ (.int .i64 ys[p])).drewN q = w2 at *
        clear hm ha hh1
        go_wp2_with fail
        go_roundw
        case rel => exact ⟨p, (ys.set p ys[k]).set k ys[p], rfl, by simp; omega, by simp; exact HYL.out, (List.set_set_perm hpy hk).trans HY.out, HP2.out, (HC.out.then (HX1.out.chg _)).then HC2.out⟩
        case measure => simp [intOf]; omega
open Go.RowKit
def PermQ2 (B b g cap : Nat) (xs : List Int) (w : World) (e : Ending) (w' : World) : Prop := (∃ u : Bool, e = .returned (.bool u)) ∧ ∃ ys : List Int, ys.Perm xs ∧ (∀ z, xs.getLast? = some z → ys.getLast? = some z) ∧ PileG B b g cap ys w' ∧ Chg [g] w w'
theorem last_set {xs : List Int} {i : Nat} (h : i + 1 < xs.length) (z : Int) : (xs.set i z).getLast? = xs.getLast? := by
  rw [List.getLast?_eq_getElem?, List.getLast?_eq_getElem?]
  simp only [List.length_set]
  rw [List.getElem?_set_ne (by omega)]
set_option maxRecDepth 100000 in
set_option maxHeartbeats 1000000 in
theorem down_calls (B b g cap : Nat) (xs : List Int) (w : World) (h : PileG B b g cap xs w) (n : Nat) (hn : n + 1 = xs.length) (hn2 : n ≤ 1000000000000000) :
    Calls Tryz.prog 118 #[.iface 130 (.pointer (some ⟨b, 0, none⟩)), .int .i64 0, .int .i64 n] w (PermQ2 B b g cap xs w) := by
  have HP := Lib.hid h
  have HN := Lib.hid hn
  clear h hn
  go_enter Tryz.func118, Tryz.ntmps118
  go_wp2_with fail
  go_loopw [7, 8, 9, 10] (fun t _ _ _ wr => ∃ (k : Nat) (ys : List Int), t = .int .i64 k ∧ k ≤ n ∧ n + 1 = ys.length ∧ ys.Perm xs ∧ (∀ z, xs.getLast? = some z → ys.getLast? = some z) ∧ PileG B b g cap ys wr ∧ Chg [g] w wr) (fun t _ _ _ _ => n - (intOf t).toNat)
  case atStart => exact ⟨0, xs, rfl, by omega, HN.out, List.Perm.refl _, fun _ h => h, HP.out, Chg.refl _ _⟩
  case round =>
    obtain ⟨k, ys, rfl, hk, hyl, hyp, hla, hpl, hch⟩ := hrel
    have HPL := Lib.hid hpl
    have HC := Lib.hid hch
    have HY := Lib.hid hyp
    have HYL := Lib.hid hyl
    have HLA := Lib.hid hla
    have hhead := hpl.head
    clear hpl hch hyp hyl HP HN hla
    obtain ⟨j1, hj1⟩ : ∃ j1 : Nat, j1 = 2 * k + 1 := ⟨_, rfl⟩
    have q1 : (2 * (k : Int) + 1) = (j1 : Int) := by omega
    have hkj : k < j1 := by omega
    have HJ1 := Lib.hid hj1
    have t1 : decide ((j1 : Int) < 0) = false := by simp
    have hj1b : j1 ≤ 2000000000000001 := by omega
    clear hj1
    by_cases hlt : j1 < n
    · have t0 : decide (n ≤ j1) = false := by simp; omega
      have hy1 : j1 < ys.length := by have := HYL.out; omega
      have hyk : k < ys.length := by have := HYL.out; omega
      obtain ⟨j2, hj2⟩ : ∃ j2 : Nat, j2 = j1 + 1 := ⟨_, rfl⟩
      have q2 : ((j1 : Int) + 1) = (j2 : Int) := by omega
      have hj12 : j1 < j2 := by omega
      have hj2n : j2 ≤ n := by omega
      clear hj2
      by_cases h2 : j2 < n
      case' neg =>
        have t2 : decide (j2 < n) = false := by simp; omega
        go_upto_region 8 with fail
        obtain ⟨j, hj⟩ : ∃ j : Nat, j = j1 := ⟨_, rfl⟩
        obtain ⟨w1, hw1⟩ : ∃ w1 : World, w1 = wr := ⟨_, rfl⟩
        have HX1 := Lib.hid (show Ext wr w1 by rw [hw1]; exact Ext.refl _)
        rw [← hj, ← hw1]
        have hjk : k < j ∧ j < n := by omega
        clear hj hw1
      case' pos =>
        have t2 : decide (j2 < n) = true := by simp; omega
        have hy2 : j2 < ys.length := by have := HYL.out; omega
        have HL := Lib.hid (iless_calls g ys.length cap j2 j1 ys[j2] ys[j1] wr hy2 hy1 (HPL.out.cell hy2) (HPL.out.cell hy1))
        have ha := fun n => ahead_less n b
        have hm := fun n => meth_less n b _ wr hhead
        cases hd : decide (ys[j2] < ys[j1])
        case' false =>
          have HD := Lib.hid hd
          clear hd
          go_wp2_with fail
          refine HL.out.mono ?_
          rintro r w1 ⟨rfl, hx1⟩
          rw [HD.out]
          have HX1 := Lib.hid hx1
          clear hx1 hm ha hhead HD
          go_upto_region 8 with fail
          obtain ⟨j, hj⟩ : ∃ j : Nat, j = j1 := ⟨_, rfl⟩
          rw [← hj]
          have hjk : k < j ∧ j < n := by omega
          clear hj
        case' true =>
          have HD := Lib.hid hd
          clear hd
          go_wp2_with fail
          refine HL.out.mono ?_
          rintro r w1 ⟨rfl, hx1⟩
          rw [HD.out]
          have HX1 := Lib.hid hx1
          clear hx1 hm ha hhead HD
          go_upto_region 8 with fail
          obtain ⟨j, hj⟩ : ∃ j : Nat, j = j2 := ⟨_, rfl⟩
          rw [← hj]
          have hjk : k < j ∧ j < n := by omega
          clear hj
      all_goals
        obtain ⟨hjk, hjn⟩ := hjk
        have hyj : j < ys.length := by have := HYL.out; omega
        have hh1 := (HPL.out.ext HX1.out).head
        have ha := fun n => ahead_less n b
        have hm := fun n => meth_less n b _ w1 hh1
        have HL2 := Lib.hid (iless_calls g ys.length cap j k ys[j] ys[k] w1 hyj hyk ((HPL.out.ext HX1.out).cell hyj) ((HPL.out.ext HX1.out).cell hyk))
        cases hd : decide (ys[j] < ys[k])
        · have HD := Lib.hid hd
          clear hd
          go_wp2_with fail
          refine HL2.out.mono ?_
          rintro r w2 ⟨rfl, hx2⟩
          rw [HD.out]
          have HX2 := Lib.hid hx2
          clear hx2 hm ha hh1 HD
          go_wp2_with fail
          go_ret
          exact ⟨⟨_, rfl⟩, ys, HY.out, HLA.out, (HPL.out.ext HX1.out).ext HX2.out, (HC.out.then (HX1.out.chg _)).then (HX2.out.chg _)⟩
        · have HD := Lib.hid hd
          clear hd
          go_wp2_with fail
          refine HL2.out.mono ?_
          rintro r w2 ⟨rfl, hx2⟩
          rw [HD.out]
          have HPX := Lib.hid ((HPL.out.ext HX1.out).ext hx2)
          have HCX := Lib.hid ((HC.out.then (HX1.out.chg _)).then (hx2.chg _))
          have hh2 := HPX.out.head
          clear hx2 hm ha hh1 HD
          have ha := fun n => ahead_swap n b
          have hm := fun n => meth_swap n b _ w2 hh2
          go_wp2_with fail
          refine (iswap_calls g ys.length cap k j ys[k] ys[j] _ hyk hyj (HPX.out.cell hyk) (HPX.out.cell hyj) HPX.out.free).mono ?_
          rintro r w3 ⟨rfl, q, rfl⟩
          obtain ⟨hp2, hc2⟩ := HPX.out.swap hyk hyj q
          have HP2 := Lib.hid hp2
          have HC2 := Lib.hid hc2
          clear hp2 hc2
          generalize ((w2.setCell ⟨g, k, none⟩ (.int .i64 ys[j])).setCell ⟨g, j, none⟩ (.int .i64 ys[k])).drewN q = w3 at *
          clear hm ha hh2
          go_wp2_with fail
          go_roundw
          case rel =>
            refine ⟨j, (ys.set k ys[j]).set j ys[k], rfl, by omega, by simp; exact HYL.out, (List.set_set_perm hyk hyj).trans HY.out, fun z hz => ?_, HP2.out, HCX.out.then HC2.out⟩
            rw [last_set (by have := HYL.out; simp; omega), last_set (by have := HYL.out; omega)]
            exact HLA.out z hz
          case measure => simp [intOf]; omega
    · have t0 : decide (n ≤ j1) = true := by simp; omega
      go_wp2_with fail
      go_ret
      exact ⟨⟨_, rfl⟩, ys, HY.out, HLA.out, HPL.out, HC.out⟩
open Go.RowKit
theorem elemIdx : ElemT 131 3 (.int .i64 0) 1 8 := ⟨by kernel_rfl, by kernel_rfl, rfl, by omega⟩
structure PileV (B b : Nat) (v : Value) (xs : List Int) (w : World) : Prop where
  hB : B ≤ b
  hb : w.heap[b]? = some (.cells #[v] 133 (0, 0))
  own : w.ownsRow B 3 1 v xs.length (xs.map fun z => Value.int .i64 z)
  ne : v.ownBlock ≠ some b
theorem PileV.chg {B b : Nat} {v : Value} {xs : List Int} {w w' : World} {N : List Nat} (h : PileV B b v xs w) (hc : Chg N w w') (h1 : b ∉ N) (h2 : ∀ k, v.ownBlock = some k → k ∉ N) : PileV B b v xs w' := by
  obtain ⟨a1, a2, a3, a4⟩ := h
  refine ⟨a1, hc.blk a2 h1, ?_, a4⟩
  rcases a3 with ⟨l, h0 | ⟨g, cap, cur, e1, e2, e3, r⟩⟩
  · exact ⟨l, Or.inl h0⟩
  · exact ⟨l, Or.inr ⟨g, cap, cur, e1, e2, hc.blk e3 (h2 g (by rw [e1]; rfl)), r⟩⟩
theorem PileV.fresh (w : World) : PileV w.heap.size w.heap.size (.slice none 0 0) [] (w.alloc (.cells #[.slice none 0 0] 133)) :=
  ⟨Nat.le_refl _, heap_alloc_new w _, World.ownsRow_nil _ _ _ _, by simp [Value.ownBlock]⟩
theorem PileV.form {B b : Nat} {v : Value} {xs : List Int} {w : World} (h : PileV B b v xs w) : ∃ a c, v = .slice a xs.length c := by
  rcases h.own.2 with ⟨rfl, h0⟩ | ⟨g, cap, cur, rfl, _⟩
  · exact ⟨none, 0, by rw [h0]⟩
  · exact ⟨_, _, rfl⟩
theorem PileV.g {B b : Nat} {v : Value} {xs : List Int} {w : World} (h : PileV B b v xs w) (hx : 0 < xs.length) : ∃ g cap, v = .slice (some ⟨g, 0, none⟩) xs.length cap ∧ PileG B b g cap xs w := by
  obtain ⟨a1, a2, a3, a4⟩ := h
  rcases a3.2 with ⟨rfl, h0⟩ | ⟨g, cap, cur, rfl, h1, h2, h3, h4, h5, h6⟩
  · omega
  · exact ⟨g, cap, rfl, a1, h1, fun e => a4 (by rw [e]; rfl), a2, cur, h2, h3, h4, by simpa using h5, by simpa using h6⟩
theorem PileG.v {B b g cap : Nat} {xs : List Int} {w : World} (h : PileG B b g cap xs w) : PileV B b (.slice (some ⟨g, 0, none⟩) xs.length cap) xs w := by
  obtain ⟨a1, a2, a3, a4, cur, h2, h3, h4, h5, h6⟩ := h
  refine ⟨a1, a4, ⟨by simp, Or.inr ⟨g, cap, cur, rfl, a2, h2, h3, h4, by simpa using h5, by simpa using h6⟩⟩, fun e => a3 (by simpa [Value.ownBlock] using e)⟩
theorem owns_form {w : World} {base : Nat} {e : TypeId} {size : Nat} {v : Value} {n : Nat} {xs : List Value} (h : w.ownsRow base e size v n xs) : ∃ a c, v = .slice a n c := by
  rcases h.2 with ⟨rfl, h0⟩ | ⟨g, cap, cur, rfl, _⟩
  · exact ⟨none, 0, by rw [h0]⟩
  · exact ⟨_, _, rfl⟩
def PushQ (B b : Nat) (v : Value) (ok : List Int → Prop) (w : World) (e : Ending) (w' : World) : Prop := e = .returned (.tuple #[]) ∧ ∃ v' ys, ok ys ∧ PileV B b v' ys w' ∧ Chg (b :: rowOf v) w w' ∧ ∀ k, v'.ownBlock = some k → v.ownBlock = some k ∨ w.heap.size ≤ k
set_option maxRecDepth 100000 in
set_option maxHeartbeats 1000000 in
theorem ipush_calls (B b : Nat) (v : Value) (xs : List Int) (z : Int) (w : World) (h : PileV B b v xs w) (hB : B ≤ w.heap.size) (hl : xs.length ≤ 1000000000) :
    Calls Tryz.prog 179 #[.pointer (some ⟨b, 0, none⟩), .iface 3 (.int .i64 z)] w (PushQ B b v (· = xs ++ [z]) w) := by
  have HP := Lib.hid h
  have hb0 := blk_cell h.hb 0
  have hbf := blk_free h.hb 0
  have hlt := blk_lt h.hb
  obtain ⟨a, c, hv⟩ := h.form
  subst hv
  simp at hb0
  have t1 : (Value.iface 3 (.int .i64 z)) = (Value.iface 3 (.int .i64 z)) := rfl
  clear h t1
  obtain ⟨i0, hi, hz0, hz1, hz2⟩ := info_parts elemIdx.info
  have hta : ∀ W : World, (Instr.typeAssert (.iface 3 (.int .i64 z)) 20 3 true).run Tryz.prog W = .ok (.tuple #[.int .i64 z, .bool true]) W := fun W => by kernel_rfl
  go_enter Tryz.func179, Tryz.ntmps179
  go_wp2_with (at_builtin; refine wpList_append_own_at _ rfl _ _ 131 rfl B 3 i0 (.int .i64 0) 1 8 elemIdx.ht hi hz0 hz1 hz2 rfl (by decide) _ xs.length _ rfl (HP.out.own.alloc _) ⟨w.heap.size, 0, none⟩ 1 1 [.int .i64 z] rfl rfl ?c1 ?c2 ?c3 ?c4 ?c5 ?_)
  case c1 => exact cell_one_new _ _ _
  case c2 => simp [Value.oneCell']
  case c3 => unfold maxLen; omega
  case c4 => omega
  case c5 => simp; omega
  intro v' w' hown' hgrow' _ hwhere
  have hbn : some b ≠ (Value.slice a xs.length c).ownBlock := fun e => HP.out.ne e.symm
  have hb' : w'.heap[b]? = some (.cells #[.slice a xs.length c] 133 (0, 0)) := (hgrow'.block b (by simp; omega) hbn).trans (blk_alloc HP.out.hb)
  have hb1 := blk_cell hb' 0
  have hf1 := blk_free hb' 0
  have hl1 := blk_lt hb'
  simp at hb1
  have hvb : v'.ownBlock ≠ some b := by
    rcases hwhere with e | e
    · rw [e]; exact fun h => hbn h.symm
    · rw [e]; simp; omega
  obtain ⟨a', c', hv'⟩ := owns_form hown'
  subst hv'
  have HB1 := Lib.hid hb'
  have HO := Lib.hid hown'
  have HG := Lib.hid hgrow'
  have HW := Lib.hid hwhere
  clear hb' hown' hgrow' hwhere hb0 hbf hta
  go_wp2_with fail
  go_end0
  have hc1 : Chg (rowOf (.slice a xs.length c)) w w' := (((Ext.refl w).alloc _).chg _).then (grown_chg HG.out)
  have hc2 : Chg [b] w' (w'.setCell ⟨b, 0, none⟩ (.slice a' (xs.length + 1) c')) := (Chg.refl _ _).setCell (Or.inl (by simp)) _
  refine ⟨rfl, .slice a' (xs.length + 1) c', xs ++ [z], rfl, ⟨HP.out.hB, ?_, ?_, hvb⟩, ?_, ?_⟩
  · have := heap_setCell_same w' b 0 _ _ (.slice a' (xs.length + 1) c') HB1.out
    simpa using this
  · have := owns_chg HO.out hc2 (fun k hk hm => hvb (by simp at hm; rw [hk, hm]))
    simpa using this
  · refine Chg.trans (Chg.trans (Chg.refl (b :: rowOf (.slice a xs.length c)) w) hc1 (fun x hx => Or.inl (by simp [hx]))) hc2 (fun x hx => Or.inl (by simp at hx; simp [hx]))
  · intro k hk
    rcases HW.out with e | e
    · exact Or.inl (by rw [← e]; exact hk)
    · rw [e] at hk
      simp at hk
      exact Or.inr (by omega)
end Go.Proofs.YtpkljcgihobaiaaGreatDoor
