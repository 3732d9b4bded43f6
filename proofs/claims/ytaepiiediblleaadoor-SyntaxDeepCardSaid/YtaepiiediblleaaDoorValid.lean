import Derived.Test.YtaepiiediblleaaDoorNode2
import Derived.Test.YtaepiiediblleaaDoorSize
namespace Go.Proofs.YtaepiiediblleaaDoor
open Go.RowKit

theorem World.setCell_twice (w : World) (p : Addr) (u v : Value) : (w.setCell p u).setCell p v = w.setCell p v := by
  simp only [World.setCell, World.mk.injEq, and_true]
  apply Array.ext_getElem?
  intro i
  simp only [Array.getElem?_modify]
  split
  · cases w.heap[i]? with
    | none => rfl
    | some o =>
      simp only [Option.map_some, Option.some.injEq]
      cases o with
      | cells c el fr =>
        by_cases h : p.spot.isSome
        · simp [h]
        · simp only [h, Bool.false_eq_true, if_false, Obj.cells.injEq, and_true]
          apply Array.ext_getElem?
          intro j
          simp only [Array.getElem?_setIfInBounds, Array.size_setIfInBounds]
          split
          · split <;> simp_all
          · rfl
      | _ => rfl
  · rfl

theorem Ext.set {a b : World} (h : Ext a b) (p : Addr) (v : Value) : Ext (a.setCell p v) (b.setCell p v) := by
  refine ⟨h.os, h.tape, h.output, by simp; exact h.size, fun k hk => ?_⟩
  have hk' : k < a.heap.size := by simpa using hk
  simp only [World.setCell, Array.getElem?_modify]
  rw [h.block k hk']
theorem Ext.setAbove {a b : World} (h : Ext a b) {p : Addr} (hp : a.heap.size ≤ p.block) (v : Value) : Ext a (b.setCell p v) := Below.setCell h hp v

mutual
def Ex.fits : Ex → Prop
  | .mk _ name words _ _ args => name.size ≤ 1000000000000000 ∧ (∀ x ∈ words, x.size ≤ 1000000000000000) ∧ fitsAll args
def fitsAll : List Ex → Prop
  | [] => True
  | e :: r => e.fits ∧ fitsAll r
end
theorem fitsAll_at : (l : List Ex) → fitsAll l → (k : Nat) → (hk : k < l.length) → l[k].fits
  | [], _, k, hk => by simp at hk
  | e :: r, h, 0, _ => by unfold fitsAll at h; exact h.1
  | e :: r, h, k + 1, hk => by unfold fitsAll at h; simpa using fitsAll_at r h.2 k (by simpa using hk)
theorem fits_parts {e : Ex} (h : e.fits) : e.name.size ≤ 1000000000000000 ∧ (∀ x ∈ e.words, x.size ≤ 1000000000000000) ∧ fitsAll e.args := by
  cases e; unfold Ex.fits at h; exact h

mutual
def validF : Ex → Int → Int → Bool × Int
  | .mk op name words lo hi args, d, n =>
    if 300 < n + 1 ∨ 16 < d ∨ nodeB (.mk op name words lo hi args) = false then (false, n + 1) else validsF args (d + 1) (n + 1)
def validsF : List Ex → Int → Int → Bool × Int
  | [], _, n => (true, n)
  | e :: r, d, n => if (validF e d n).1 then validsF r d (validF e d n).2 else (false, (validF e d n).2)
end
theorem validF_eq (e : Ex) (d n : Int) : validF e d n = if 300 < n + 1 ∨ 16 < d ∨ nodeB e = false then (false, n + 1) else validsF e.args (d + 1) (n + 1) := by
  cases e; rw [validF]; rfl
theorem validsF_drop (l : List Ex) (k : Nat) (hk : k < l.length) (d n : Int) : validsF (l.drop k) d n = if (validF l[k] d n).1 then validsF (l.drop (k + 1)) d (validF l[k] d n).2 else (false, (validF l[k] d n).2) := by
  rw [List.drop_eq_getElem_cons hk, validsF]
mutual
theorem validF_bd : (e : Ex) → (d n : Int) → n ≤ 300 → n < (validF e d n).2 ∧ (validF e d n).2 ≤ 301
  | .mk op name words lo hi args, d, n, h => by
    rw [validF]
    split
    · constructor <;> simp <;> omega
    · have := validsF_bd args (d + 1) (n + 1) (by omega)
      omega
theorem validsF_bd : (l : List Ex) → (d n : Int) → n ≤ 300 → n ≤ (validsF l d n).2 ∧ (validsF l d n).2 ≤ 301
  | [], d, n, h => by simp [validsF]; omega
  | e :: r, d, n, h => by
    have h1 := validF_bd e d n h
    have h3 := validF_ok e d n
    rw [validsF]
    split
    · rename_i hok
      have := validsF_bd r d (validF e d n).2 (h3 hok)
      omega
    · simp only; omega
theorem validF_ok : (e : Ex) → (d n : Int) → (validF e d n).1 = true → (validF e d n).2 ≤ 300
  | .mk op name words lo hi args, d, n => by
    rw [validF]
    split
    · simp
    · exact validsF_ok args (d + 1) (n + 1) (by omega)
theorem validsF_ok : (l : List Ex) → (d n : Int) → n ≤ 300 → (validsF l d n).1 = true → (validsF l d n).2 ≤ 300
  | [], d, n, h => by simp [validsF]; omega
  | e :: r, d, n, h => by
    rw [validsF]
    split
    · rename_i hok
      exact validsF_ok r d _ (validF_ok e d n hok)
    · simp
end

/-- What a call of valid does: it answers, and the counter holds the new number. -/
def ValidQ (r : Bool × Int) (p : Addr) (w : World) (x : Ending) (w' : World) : Prop := x = .returned (.bool r.1) ∧ Ext (w.setCell p (.int .i64 r.2)) w'

theorem validQ_mk {b : Bool} {R : Bool × Int} {b' : Bool} {n : Int} {p : Addr} {w w' : World} (h : R = (b', n)) (hb : b = b') (hx : Ext (w.setCell p (.int .i64 n)) w') : ValidQ R p w (.returned (.bool b)) w' := by
  subst h hb; exact ⟨rfl, hx⟩

set_option maxRecDepth 100000 in
set_option maxHeartbeats 1000000 in
theorem valid_calls (m : Nat) : ∀ (e : Ex) (v : Value) (w0 w : World) (bs : Nat) (d n : Int), e.size ≤ m → IsEx w0 e v → HasOps w0 → e.fits → Ext w0 w → w0.heap.size ≤ bs → w.cell? ⟨bs, 0, none⟩ = some (.int .i64 n) → w.frozen? ⟨bs, 0, none⟩ = false →
    0 ≤ n → n ≤ 300 → 0 ≤ d → d ≤ 17 → Calls Tryd.prog 34 #[v, .int .i64 d, .pointer (some ⟨bs, 0, none⟩)] w (ValidQ (validF e d n) ⟨bs, 0, none⟩ w) := by
  induction m with
  | zero => intro e v w0 w bs d n h; cases e; simp [Ex.size] at h
  | succ m ih =>
    intro e v w0 w bs d n hm he ho hf hx hbs hc hz hn0 hn hd0 hd
    have IH := Lib.hid ih
    clear ih
    have HE := Lib.hid he
    have HO := Lib.hid ho
    have HF := Lib.hid hf
    have HX := Lib.hid hx
    have hbw := block_lt hc
    simp only at hbw
    obtain ⟨aw, nw, cw, aa, na, ca, rfl, hw, hna, hca, ha, hxs⟩ := he.parts
    have HXS := Lib.hid hxs
    have HNA := Lib.hid hna
    have hse : e.size = 1 + sizes e.args := by cases e; simp [Ex.size, Ex.args]
    have HM := Lib.hid (show 1 + sizes e.args ≤ m + 1 by omega)
    clear he ho hf hx hw hca ha hxs hna hse hm
    by_cases h1 : 300 < n + 1
    · have H := Lib.hid (show validF e d n = (false, n + 1) by rw [validF_eq, if_pos (Or.inl h1)])
      generalize validF e d n = R at *
      unfold exV
      go_enter Tryd.func34, Tryd.ntmps34
      go_wp2_with fail
      go_ret
      exact validQ_mk H.out rfl ((Ext.refl _).alloc _)
    by_cases h2 : 16 < d
    · have H := Lib.hid (show validF e d n = (false, n + 1) by rw [validF_eq, if_pos (Or.inr (Or.inl h2))])
      generalize validF e d n = R at *
      unfold exV
      go_enter Tryd.func34, Tryd.ntmps34
      go_wp2_with fail
      go_ret
      exact validQ_mk H.out rfl ((Ext.refl _).alloc _)
    have HN : Hid (∀ w1, Ext w0 w1 → Calls Tryd.prog 58 #[exV e.op e.name aw nw cw e.lo e.hi aa na ca] w1 (GivesE (.bool (nodeB e)) w1)) := fun w1 h =>
      node_calls e _ w1 (HE.out.ext h) (HO.out.ext h) (fits_parts HF.out).1 (fits_parts HF.out).2.1
    cases h3 : nodeB e
    · have H := Lib.hid (show validF e d n = (false, n + 1) by rw [validF_eq, if_pos (Or.inr (Or.inr h3))])
      have H3 := Lib.hid h3
      clear h3
      generalize validF e d n = R at *
      unfold exV at *
      go_enter Tryd.func34, Tryd.ntmps34
      go_wp2_with fail
      refine (HN.out _ (Ext.alloc (HX.out.setAbove hbs _) _)).mono ?_
      rintro r w1 ⟨rfl, hw1⟩
      rw [H3.out]
      go_wp2_with fail
      go_ret
      exact validQ_mk H.out rfl (((Ext.refl _).alloc _).trans hw1)
    · have H := Lib.hid (show validF e d n = validsF e.args (d + 1) (n + 1) by rw [validF_eq, if_neg (by simp [h3]; omega)])
      have H3 := Lib.hid h3
      have hna : na ≤ 300 := by
        have := h3
        unfold nodeB at this
        simp only [Bool.and_eq_true, decide_eq_true_eq] at this
        have h4 := this.1.1.1.2.2
        have h5 : opMost e.op.toNat ≤ 300 := by
          obtain ⟨k, hk⟩ := Int.eq_ofNat_of_zero_le (show 0 ≤ e.op by omega)
          rw [hk] at this ⊢
          have : k < 9 := by omega
          unfold opMost
          match k, this with | 0, _ | 1, _ | 2, _ | 3, _ | 4, _ | 5, _ | 6, _ | 7, _ | 8, _ => decide
        have := HNA.out
        omega
      clear h3
      generalize validF e d n = R at *
      unfold exV at *
      go_enter Tryd.func34, Tryd.ntmps34
      go_wp2_with fail
      refine (HN.out _ (Ext.alloc (HX.out.setAbove hbs _) _)).mono ?_
      rintro r w1 ⟨rfl, hw1⟩
      rw [H3.out]
      have hx5 : w1.cell? ⟨w.heap.size, 5, none⟩ = some (.slice aa na ca) := hw1.cell (by go_simp)
      have hw2 := Lib.hid hw1
      clear hw1
      go_wp2_with fail
      go_loopw [30] (fun i wr => ∃ (k : Nat) (c : Int), k ≤ na ∧ i = .int .i64 k ∧ 0 ≤ c ∧ c ≤ 300 ∧ validsF (e.args.drop k) (d + 1) c = R ∧ Ext (w.setCell ⟨bs, 0, none⟩ (.int .i64 c)) wr) (fun i _ => na - (intOf i).toNat)
      case atStart => exact ⟨0, n + 1, by omega, rfl, by omega, by omega, by rw [List.drop_zero, H.out], ((Ext.refl _).alloc _).trans hw2.out⟩
      case round =>
        obtain ⟨k, c, hk, rfl, hc0, hc1, hR, hwr⟩ := hrel
        have HR := Lib.hid hR
        have HWR := Lib.hid hwr
        clear hR hwr hx5 hw2
        by_cases hlt : k < na
        · have hlt' : k < e.args.length := by have := HNA.out; omega
          have hsz : e.args[k].size ≤ m := by
            have h1 := sizes_take_succ e.args k hlt'
            have h2 := sizes_take_le e.args (k + 1)
            have := HM.out
            omega
          have hx0 := Lib.hid (show Ext w0 wr from (HX.out.setAbove hbs _).trans HWR.out)
          have hcc : wr.cell? ⟨bs, 0, none⟩ = some (.int .i64 c) := HWR.out.cell (World.cell?_setCell_same _ _ _ hc)
          have hcz : wr.frozen? ⟨bs, 0, none⟩ = false := by rw [HWR.out.frozen (World.cell?_setCell_same _ _ _ hc)]; simpa using hz
          have hbr := block_lt hcc
          simp only at hbr
          obtain ⟨b, off, rfl, aw1, nw1, cw1, aa1, na1, ca1, g0, g1, g2, g3, g4, g5, g6⟩ := ExsD.at e.args _ HXS.out k hlt'
          have f0 := hx0.out.cell g0
          have f1 := hx0.out.cell g1
          have f2 := hx0.out.cell g2
          have f3 := hx0.out.cell g3
          have f4 := hx0.out.cell g4
          have f5 := hx0.out.cell g5
          have hcall := Lib.hid (fun (w1 : World) (hw : Ext wr w1) => IH.out e.args[k] (exV e.args[k].op e.args[k].name aw1 nw1 cw1 e.args[k].lo e.args[k].hi aa1 na1 ca1) w0 w1 bs (d + 1) c hsz g6 HO.out
            (fitsAll_at _ (fits_parts HF.out).2.2 k hlt') (hx0.out.trans hw) hbs (hw.cell hcc) (by rw [hw.frozen hcc]; exact hcz) hc0 hc1 (by omega) (by omega))
          clear g0 g1 g2 g3 g4 g5 g6 hc hz
          unfold exV at hcall
          have HS := Lib.hid (validsF_drop e.args k hlt' (d + 1) c)
          have HD := Lib.hid (validF_bd e.args[k] (d + 1) c hc1)
          have HK := Lib.hid (validF_ok e.args[k] (d + 1) c)
          generalize validF e.args[k] (d + 1) c = S at *
          obtain ⟨sb, sn⟩ := S
          cases sb
          · go_wp2_with fail
            refine (hcall.out _ ((Ext.refl wr).alloc _)).mono ?_
            rintro r w1 ⟨rfl, hw1⟩
            go_wp2_with fail
            go_ret
            refine validQ_mk (HR.out.symm.trans HS.out) rfl ?_
            have h1 := (((Ext.refl wr).alloc (.cells #[.int .i64 e.args[k].op, .string e.args[k].name, .slice aw1 nw1 cw1, .int .i64 e.args[k].lo, .int .i64 e.args[k].hi, .slice aa1 na1 ca1] 26)).set ⟨bs, 0, none⟩ (.int .i64 sn)).trans hw1
            have h2 := (HWR.out.set ⟨bs, 0, none⟩ (.int .i64 sn)).trans h1
            rw [World.setCell_twice] at h2
            exact h2
          · go_wp2_with fail
            refine (hcall.out _ ((Ext.refl wr).alloc _)).mono ?_
            rintro r w1 ⟨rfl, hw1⟩
            have HW1 := Lib.hid hw1
            clear hw1
            go_wp2_with fail
            go_roundw
            case rel =>
              refine ⟨k + 1, sn, by omega, by go_num, ?_, HK.out (by trivial), HS.out.symm.trans HR.out, ?_⟩
              · have := HD.out; omega
              have h1 := (((Ext.refl wr).alloc (.cells #[.int .i64 e.args[k].op, .string e.args[k].name, .slice aw1 nw1 cw1, .int .i64 e.args[k].lo, .int .i64 e.args[k].hi, .slice aa1 na1 ca1] 26)).set ⟨bs, 0, none⟩ (.int .i64 sn)).trans HW1.out
              have h2 := (HWR.out.set ⟨bs, 0, none⟩ (.int .i64 sn)).trans h1
              rw [World.setCell_twice] at h2
              exact h2
            case measure => simp [intOf]; omega
        · have hkn := Lib.hid (show k = e.args.length by have := HNA.out; omega)
          go_wp2_with fail
          go_ret
          exact validQ_mk (R := R) (by rw [← HR.out, hkn.out, List.drop_length, validsF]) rfl HWR.out

/-- Valid. -/
def validB (e : Ex) : Bool := (validF e 1 0).1
theorem Valid_calls (e : Ex) (v : Value) (w : World) (he : IsEx w e v) (ho : HasOps w) (hf : e.fits) : Calls Tryd.prog 14 #[v] w (GivesE (.bool (validB e)) w) := by
  have HE := Lib.hid he
  have HO := Lib.hid ho
  have HF := Lib.hid hf
  obtain ⟨aw, nw, cw, aa, na, ca, rfl, -⟩ := he.parts
  clear he ho hf
  unfold exV at *
  go_enter Tryd.func14, Tryd.ntmps14
  go_wp2_with fail
  refine (valid_calls e.size e _ w _ _ 1 0 (Nat.le_refl _) HE.out HO.out HF.out (((Ext.refl w).alloc _).alloc _) (by simp) (by go_simp) (by go_simp) (by omega) (by omega) (by omega) (by omega)).mono ?_
  rintro r w1 ⟨rfl, hw1⟩
  go_wp2_with fail
  go_ret
  exact givesE_bool rfl ((Ext.setAbove (((Ext.refl w).alloc _).alloc _) (by simp) _).trans hw1)
end Go.Proofs.YtaepiiediblleaaDoor
