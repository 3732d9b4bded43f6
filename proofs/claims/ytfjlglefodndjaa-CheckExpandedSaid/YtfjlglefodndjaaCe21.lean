/-
  Texts of the claim, joined: LawExpr, Made10, Exp2, CExp1, Defs, Reach0.
-/
import Derived.Test.YtfjlglefodndjaaCe08
import Derived.Test.YtfjlglefodndjaaCe20
import Derived.Test.YtfjlglefodndjaaCe10
import Derived.Test.YtfjlglefodndjaaCe16
import Derived.Test.YtfjlglefodndjaaCe11
import Derived.Test.YtfjlglefodndjaaCe18
import Derived.Test.YtfjlglefodndjaaCe12
import Derived.Test.YtfjlglefodndjaaCe19
namespace Go.Proofs.Ytfjlglefodndjaa
open Go.RowKit

instance okAttrDec (a : Attr) : Decidable (OkAttr a) := by unfold OkAttr; infer_instance
theorem schemas_ok : ∀ l ∈ schemas, (∀ a ∈ l, OkAttr a) ∧ l ≠ [] ∧ l.length ≤ 1000 := by
  have h : ∀ l ∈ schemas, (∀ a ∈ l, OkAttr a) ∧ l.length ≠ 0 ∧ l.length ≤ 1000 := by decide +kernel
  intro l hl
  obtain ⟨h1, h2, h3⟩ := h l hl
  exact ⟨h1, fun e => h2 (by rw [e]; rfl), h3⟩
def defOld : List ByteArray := [⟨#[100, 101, 102]⟩, ⟨#[111, 108, 100]⟩]
/-- An expression was made; nothing that was there has changed. -/
def LawExprQ (M : List Nat) (w : World) (e : Ending) (w' : World) : Prop := ∃ (x : Ex) (v : ExV) (attrs : List Attr), e = .returned v.val ∧ attrs ∈ schemas ∧ MadeE attrs defOld 5 x ∧ IsEx (mask w' M) x v.val ∧ Ext w w'

end Go.Proofs.Ytfjlglefodndjaa

namespace Go.Proofs.Ytfjlglefodndjaa
open Go.RowKit

/-! treatylaw10.made. -/
def pcd : ByteArray := ⟨#[99, 45]⟩
def GnM (w0 : World) (bd rb : Nat) (wr W : World) : Prop := DeckAt w0 W bd ∧ Chg [bd, rb] wr W ∧ ∃ q, W.heap[rb]? = some (.cells #[q] 41 (0, 0))
def GnS (q bd rb k : Nat) (W W' : World) : Prop := Chg [bd, rb] W W' ∧ (k ≠ q → Chg [bd] W W')
--BEGIN DEF M3
def md3R (attrs : List Attr) (bd rb n : Nat) (sa : Option Addr) (sn sc : Nat) : Nat → Value → World → Prop
  | 0, u, _ => u = .agg #[.slice sa sn sc]
  | 1, u, _ => u = .pointer (some ⟨bd, 0, none⟩)
  | 2, u, _ => u = .agg #[.slice sa sn sc]
  | 3, u, _ => u = .int .i64 ((n : Nat) : Int)
  | 4, u, W => ∃ (l : List Cla) (la : Option Addr) (ln : Nat) (lc : Nat), u = .slice la ln lc ∧ (IsClas (mask W [bd, rb]) l la ln lc ∧ GLOk attrs pcd l ∧ 1 ≤ l.length ∧ l.length ≤ n + 1)
  | 5, u, _ => u = .pointer (some ⟨bd, 0, none⟩)
  | 6, _, W => W.heap[rb]? = some (.cells #[.slice sa sn sc] 41 (0, 0))
  | 7, u, W => ∃ (l : List Cla) (la : Option Addr) (ln : Nat) (lc : Nat), u = .slice la ln lc ∧ (IsClas (mask W [bd, rb]) l la ln lc ∧ GLOk attrs pcd l ∧ 1 ≤ l.length ∧ l.length ≤ n + 1)
  | _, u, _ => u = .pointer (some ⟨bd, 0, none⟩)
--END DEF M3
def MadeSQ (n : Nat) (w : World) (e : Ending) (w' : World) : Prop := ∃ attrs sa sn sc l la ln lc bd, e = .returned (.tuple #[.agg #[.slice sa sn sc], .slice la ln lc, .pointer (some ⟨bd, 0, none⟩)]) ∧ attrs ∈ schemas ∧ IsSchema (mask w' [bd]) attrs (.agg #[.slice sa sn sc]) ∧ IsClas (mask w' [bd]) l la ln lc ∧ GLOk attrs pcd l ∧ 1 ≤ l.length ∧ l.length ≤ n + 1 ∧ DeckAt w w' bd ∧ Ext w w'
theorem new_callsB (la : Option Addr) (ln lc : Nat) (w0 w : World) (h : IntsAt w0 la ln) (hx : Ext w0 w) (hl : ln ≤ 1000000000000000) : Calls Try.prog 13 #[.slice la ln lc] w (fun e w' => ∃ bd, e = .returned (.pointer (some ⟨bd, 0, none⟩)) ∧ DeckAt w0 w' bd ∧ Ext w w' ∧ w.heap.size ≤ bd) := by
  have HX := Lib.hid hx
  clear hx
  go_enter Try.func13, Try.ntmps13
  go_wp2_with fail
  go_ret
  exact ⟨w.heap.size, rfl, ⟨la, ln, lc, 0, alloc_new w _, by omega, hl, h, HX.out.trans ((Ext.refl w).alloc _), HX.out.size⟩, (Ext.refl w).alloc _, Nat.le_refl _⟩
set_option maxRecDepth 100000 in
set_option maxHeartbeats 8000000 in
theorem made10_calls (da : Option Addr) (dn dc n : Nat) (hn : n ≤ 50) (w0 : World) (h : IntsAt w0 da dn) (hdl : dn ≤ 1000000000000000) : Calls Try.prog 9 #[.slice da dn dc, .int .i64 (n : Nat)] w0 (MadeSQ n w0) := by
  have HI := Lib.hid h
  clear h
  obtain ⟨rb, hrb⟩ : ∃ rb, rb = w0.heap.size := ⟨_, rfl⟩
  have HRBE := Lib.hid hrb
  obtain ⟨wa, hwa⟩ : ∃ wa, wa = w0.alloc (.cells #[.slice none 0 0] 41) := ⟨_, rfl⟩
  have HXA := Lib.hid (show Ext w0 wa by rw [hwa]; exact (Ext.refl _).alloc _)
  have HRA := Lib.hid (show wa.heap[rb]? = some (.cells #[.slice none 0 0] 41 (0, 0)) by rw [hwa, hrb]; exact alloc_new w0 _)
  go_enter Try.func9, Try.ntmps9
  go_upto_region 1 with fail
  rw [← hwa, ← hrb]
  clear hwa hrb
  go_wp2_with fail
  refine (new_callsB da dn dc w0 wa HI.out HXA.out hdl).mono ?_
  rintro e w1 ⟨bd, rfl, hd1, hx1, hbl⟩
  have HD1 := Lib.hid hd1
  have HX1 := Lib.hid (HXA.out.trans hx1)
  have HR1 := Lib.hid (hx1.blk HRA.out)
  have hra := blk_lt HRA.out
  have HBL := Lib.hid (show rb < bd by omega)
  clear hd1 hx1 HRA HXA hbl hra
  go_wp2_with fail
  refine (next_calls HD1.out 6 (by omega) (by omega)).mono ?_
  rintro e w2 ⟨z, rfl, hz0, hz1, hd2, hc2⟩
  have HD2 := Lib.hid hd2
  have hz2 := hc2.size
  have HR2 := Lib.hid (hc2.blk HR1.out (by have := HBL.out; simp; omega))
  have HX2 := Lib.hid (hc2.ext HX1.out (fun y hy => by simp only [List.mem_singleton] at hy; have := HBL.out; have := HRBE.out; omega))
  have hbw := hd2.lt
  have HBW := Lib.hid hbw
  clear hd2 hc2 HD1 HX1 HR1 hbw hz2
  go_wp2_with fail
  refine (schema_calls z [bd, rb] w2 (fun y hy => by have := HBL.out; have := HBW.out; simp at hy; omega)).mono ?_
  rintro e w3 ⟨attrs, v, rfl, hat, hsch, hx3⟩
  obtain ⟨sa, sn, sc, rfl, hsn⟩ := hsch.slice
  have HSC := Lib.hid hsch
  have HD3 := Lib.hid (HD2.out.ext hx3)
  have HR3 := Lib.hid (hx3.blk HR2.out)
  have HX3 := Lib.hid (HX2.out.trans hx3)
  have h3s := hx3.size
  have HAT := Lib.hid hat
  clear hsch hx3 HD2 HR2 HX2 hsn hat
  go_upto_region 3 with fail
  obtain ⟨sb, hsb⟩ : ∃ sb, sb = w3.heap.size := ⟨_, rfl⟩
  obtain ⟨w4, hw4⟩ : ∃ w4, w4 = w3.alloc (.cells #[.slice sa sn sc] 41) := ⟨_, rfl⟩
  have hx4 : Ext w3 w4 := by rw [hw4]; exact (Ext.refl _).alloc _
  have HSB := Lib.hid (show w4.heap[sb]? = some (.cells #[.slice sa sn sc] 41 (0, 0)) by rw [hw4, hsb]; exact alloc_new w3 _)
  have HBS := Lib.hid (show rb < bd ∧ bd < sb ∧ rb = w0.heap.size ∧ sb < w4.heap.size from ⟨HBL.out, by have := HBW.out; omega, HRBE.out, blk_lt HSB.out⟩)
  have HDK := Lib.hid (HD3.out.ext hx4)
  have HS4 := Lib.hid (show IsSchema (mask w4 [bd, rb]) attrs (.agg #[.slice sa sn sc]) from HSC.out.mono (mask_grow (K := []) (hx4.chg []) (by simp)))
  have HR4 := Lib.hid (hx4.blk HR3.out)
  have HX4 := Lib.hid (HX3.out.trans hx4)
  rw [← hw4, ← hsb]
  clear hw4 hsb hx4 h3s HD3 HR3 HX3 HSC HBL HBW
  have HCL := Lib.hid (show ∀ W, DeckAt w0 W bd → Chg [bd, rb] w4 W → Calls Try.prog 22 #[.pointer (some ⟨bd, 0, none⟩), .agg #[.slice sa sn sc], .int .i64 (n : Nat), .string ⟨#[99, 45]⟩] W (GenQ attrs pcd n w0 bd [bd, rb] W) from fun W hd hW =>
    gclauses_calls HAT.out (schemas_ok attrs HAT.out).1 (schemas_ok attrs HAT.out).2.1 (schemas_ok attrs HAT.out).2.2 hd sa sn sc [bd, rb] ((HS4.out.mono (mask_grow hW (fun y hy => Or.inl hy))).mono (mask_less _ (fun y hy => by simp at hy; simp [hy]))) (fun y hy => by have := hW.size; have := HBS.out; simp at hy; omega) n hn pcd (by decide))
  --BEGIN M3
  refine wp_region_grow (m := 9) [6, 7, 8] (GnM w0 bd rb w4) (GnS 6 bd rb) (GrP (md3R attrs bd rb n sa sn sc)) (by kernel_rfl) (by kernel_rfl) ⟨HDK.out.ext ((Ext.refl w4).drew), ((Ext.refl w4).drew).chg _, _, ((Ext.refl w4).drew).blk HR4.out⟩ ?_ ?_ ?_
  · intro i k v W W' hi hk hne hout h hE
    have hi' : i = 0 ∨ i = 1 ∨ i = 2 ∨ i = 3 ∨ i = 4 ∨ i = 5 ∨ i = 6 ∨ i = 7 ∨ i = 8 := by omega
    clear hi hk
    by_cases hk : k = 6
    · subst hk
      have hE := hE.1
      rcases hi' with rfl | rfl | rfl | rfl | rfl | rfl | rfl | rfl | rfl
      · exact h
      · exact h
      · exact h
      · exact h
      · obtain ⟨l, la, ln, lc, e0, h⟩ := h
        exact ⟨l, la, ln, lc, e0, ⟨h.1.mono (mask_grow hE (fun y hy => Or.inl (by simp at hy ⊢; simp [hy]))), h.2⟩⟩
      · exact h
      · exact absurd rfl hne
      · obtain ⟨l, la, ln, lc, e0, h⟩ := h
        exact ⟨l, la, ln, lc, e0, ⟨h.1.mono (mask_grow hE (fun y hy => Or.inl (by simp at hy ⊢; simp [hy]))), h.2⟩⟩
      · exact h
    have hE : Chg [bd] W W' := (hE.2 ‹_›)
    rcases hi' with rfl | rfl | rfl | rfl | rfl | rfl | rfl | rfl | rfl
    · exact h
    · exact h
    · exact h
    · exact h
    · obtain ⟨l, la, ln, lc, e0, h⟩ := h
      exact ⟨l, la, ln, lc, e0, ⟨h.1.mono (mask_step hE (by simp)), h.2⟩⟩
    · exact h
    · exact hE.blk h (by have := HBS.out; simp; omega)
    · obtain ⟨l, la, ln, lc, e0, h⟩ := h
      exact ⟨l, la, ln, lc, e0, ⟨h.1.mono (mask_step hE (by simp)), h.2⟩⟩
    · exact h
  · intro q op hq ho vs W hW hd ρ hρ
    have hq' : q = 0 ∨ q = 1 ∨ q = 2 ∨ q = 3 ∨ q = 4 ∨ q = 5 ∨ q = 6 ∨ q = 7 ∨ q = 8 := by omega
    clear hq
    have o8 : ρ (.tmp 8) = .pointer (some ⟨sb, 0, none⟩) := hρ.out 8 rfl
    have o7 : ρ (.tmp 7) = .pointer (some ⟨bd, 0, none⟩) := hρ.out 7 rfl
    have o1 : ρ (.tmp 1) = .int .i64 ((n : Nat) : Int) := hρ.out 1 rfl
    have i1 := hρ.ins 1 15 (by omega) rfl (Nat.le_of_ble_eq_true rfl)
    have i2 := hρ.ins 2 16 (by omega) rfl (Nat.le_of_ble_eq_true rfl)
    have i3 := hρ.ins 3 17 (by omega) rfl (Nat.le_of_ble_eq_true rfl)
    have o4 : ρ (.tmp 4) = .pointer (some ⟨rb, 0, none⟩) := hρ.out 4 rfl
    have i0 := hρ.ins 0 14 (by omega) rfl (Nat.le_of_ble_eq_true rfl)
    have i4 := hρ.ins 4 18 (by omega) rfl (Nat.le_of_ble_eq_true rfl)
    have i5 := hρ.ins 5 19 (by omega) rfl (Nat.le_of_ble_eq_true rfl)
    have hc := hρ.const
    have hfn := hρ.func
    clear hρ
    have HW := Lib.hid (show DeckAt w0 W bd ∧ Chg [bd, rb] w4 W ∧ ∃ q, W.heap[rb]? = some (.cells #[q] 41 (0, 0)) from hW)
    rcases hq' with rfl | rfl | rfl | rfl | rfl | rfl | rfl | rfl | rfl
    · cases ho
      clear hd
      obtain ⟨g7, gf7⟩ := blk1 (HW.out.2.1.blk HSB.out (by have := HBS.out; simp; omega))
      unfold GivesOp
      go_simp
      exact ⟨⟨Chg.refl _ _, fun _ => Chg.refl _ _⟩, rfl⟩
    · cases ho
      clear hd
      unfold GivesOp
      go_simp
      exact ⟨⟨Chg.refl _ _, fun _ => Chg.refl _ _⟩, rfl⟩
    · cases ho
      clear hd
      obtain ⟨g7, gf7⟩ := blk1 (HW.out.2.1.blk HSB.out (by have := HBS.out; simp; omega))
      unfold GivesOp
      go_simp
      exact ⟨⟨Chg.refl _ _, fun _ => Chg.refl _ _⟩, rfl⟩
    · cases ho
      clear hd
      unfold GivesOp
      go_simp
      exact ⟨⟨Chg.refl _ _, fun _ => Chg.refl _ _⟩, rfl⟩
    · cases ho
      have h1 : vs 1 = .pointer (some ⟨bd, 0, none⟩) := hd ⟨1, .data⟩ (by simp) rfl
      rw [h1] at i1
      have h2 : vs 2 = .agg #[.slice sa sn sc] := hd ⟨2, .data⟩ (by simp) rfl
      rw [h2] at i2
      have h3 : vs 3 = .int .i64 ((n : Nat) : Int) := hd ⟨3, .data⟩ (by simp) rfl
      rw [h3] at i3
      clear hd
      unfold GivesOp
      go_simp
      refine (HCL.out W HW.out.1 HW.out.2.1).mono ?_
      rintro e5 w5 ⟨l, la, ln, lc, rfl, k1, k2, k3, k4, hd5, hc5⟩
      exact ⟨_, rfl, ⟨hc5.weak (by simp), fun _ => hc5⟩, ⟨hd5, HW.out.2.1.then (hc5.weak (by simp)), by obtain ⟨q, hq⟩ := HW.out.2.2; exact ⟨q, hc5.blk hq (by have := HBS.out; simp; omega)⟩⟩, l, la, ln, lc, rfl, k1, k2, k3, k4⟩
    · cases ho
      clear hd
      unfold GivesOp
      go_simp
      exact ⟨⟨Chg.refl _ _, fun _ => Chg.refl _ _⟩, rfl⟩
    · cases ho
      have h0 : vs 0 = .agg #[.slice sa sn sc] := hd ⟨0, .data⟩ (by simp) rfl
      rw [h0] at i0
      clear hd
      obtain ⟨q, hrq⟩ := HW.out.2.2
      have g8 := blk_cell hrq 0
      have g9 := blk_free hrq 0
      unfold GivesOp
      go_simp
      have hst : (W.setCell ⟨rb, 0, none⟩ (.slice sa sn sc)).heap[rb]? = some (.cells #[.slice sa sn sc] 41 (0, 0)) := by rw [heap_setCell_same W rb 0 _ _ (.slice sa sn sc) hrq]; simp
      have hcs : Chg [rb] W (W.setCell ⟨rb, 0, none⟩ (.slice sa sn sc)) := (Chg.refl _ _).setCell (Or.inl (by simp)) _
      exact ⟨⟨hcs.weak (by simp), fun h => absurd rfl h⟩, ⟨HW.out.1.chg hcs (by have := HBS.out; simp; omega) (fun y hy => by simp only [List.mem_singleton] at hy; have := HBS.out; omega), HW.out.2.1.then (hcs.weak (by simp)), _, hst⟩, hst⟩
    · cases ho
      obtain ⟨l, la, ln, lc, h4, hs4⟩ : ∃ (l : List Cla) (la : Option Addr) (ln : Nat) (lc : Nat), vs 4 = .slice la ln lc ∧ (IsClas (mask W [bd, rb]) l la ln lc ∧ GLOk attrs pcd l ∧ 1 ≤ l.length ∧ l.length ≤ n + 1) := hd ⟨4, .data⟩ (by simp) rfl
      have HS4 := Lib.hid hs4
      clear hs4
      rw [h4] at i4
      clear hd
      unfold GivesOp
      go_simp
      exact ⟨⟨Chg.refl _ _, fun _ => Chg.refl _ _⟩, _, _, _, _, rfl, HS4.out⟩
    · cases ho
      have h5 : vs 5 = .pointer (some ⟨bd, 0, none⟩) := hd ⟨5, .data⟩ (by simp) rfl
      rw [h5] at i5
      clear hd
      unfold GivesOp
      go_simp
      exact ⟨⟨Chg.refl _ _, fun _ => Chg.refl _ _⟩, rfl⟩
  intro vs W hW hR
  rw [if_pos (by decide +kernel)]
  have HS6 := Lib.hid (show W.heap[rb]? = some (.cells #[.slice sa sn sc] 41 (0, 0)) from hR 6 (by simp) (by omega))
  obtain ⟨l, la, ln, lc, h7, hs7⟩ : ∃ (l : List Cla) (la : Option Addr) (ln : Nat) (lc : Nat), vs 7 = .slice la ln lc ∧ (IsClas (mask W [bd, rb]) l la ln lc ∧ GLOk attrs pcd l ∧ 1 ≤ l.length ∧ l.length ≤ n + 1) := hR 7 (by simp) (by omega)
  have HS7 := Lib.hid hs7
  clear hs7
  have h8 : vs 8 = .pointer (some ⟨bd, 0, none⟩) := hR 8 (by simp) (by omega)
  simp only [acts, dstAt, List.range, List.range.loop, List.foldl_cons, List.foldl_nil, h7, h8]
  go_simp
  have hW2 : DeckAt w0 W bd ∧ Chg [bd, rb] w4 W ∧ ∃ q, W.heap[rb]? = some (.cells #[q] 41 (0, 0)) := hW
  clear hR hW h7 h8
  --END M3
  have HW2 := Lib.hid hW2
  obtain ⟨r0, rf⟩ := blk1 HS6.out
  clear hW2
  go_wp2_with fail
  refine bodyPost_ret (v := .tuple #[.agg #[.slice sa sn sc], .slice la ln lc, .pointer (some ⟨bd, 0, none⟩)]) (by simp [results, Try.results9, go_sem, r0]) rfl ?_
  exact ⟨attrs, sa, sn, sc, l, la, ln, lc, bd, rfl, HAT.out, (HS4.out.mono (mask_grow HW2.out.2.1 (fun y hy => Or.inl hy))).mono (mask_less _ (fun y hy => by simp at hy; simp [hy])), HS7.out.1.mono (mask_less _ (fun y hy => by simp at hy; simp [hy])), HS7.out.2.1, HS7.out.2.2.1, HS7.out.2.2.2, HW2.out.1, by obtain ⟨_, _, _, _, _, _, _, _, hxw, _⟩ := HW2.out.1; exact hxw⟩
end Go.Proofs.Ytfjlglefodndjaa

namespace Go.Proofs.Ytfjlglefodndjaa

/-! The plain law of check.Expanded: the definitions that an expression reaches suffice; if they depend on themselves, the count is 2001. -/
mutual
theorem expE_ge {D : ByteArray → Option Nat} {s : ByteArray} {n : Nat} (hn : D s = some n) : (e : Ex) → s ∈ namesE e → min n 2001 ≤ expE D e
  | .mk op name words lo hi args, h => by
    rw [namesE, List.mem_append] at h
    rw [expE]
    rcases h with h | h
    · by_cases h3 : op = 3
      · rw [if_pos h3] at h
        have : s = name := by simpa using h
        subst this
        rw [if_pos h3, hn]
        simp only [Option.getD_some]
        omega
      · rw [if_neg h3] at h; simp at h
    · have := expL_ge hn args h
      omega
theorem expL_ge {D : ByteArray → Option Nat} {s : ByteArray} {n : Nat} (hn : D s = some n) : (l : List Ex) → s ∈ namesL l → min n 2001 ≤ expL D l
  | [], h => by rw [namesL] at h; simp at h
  | e :: r, h => by
    rw [namesL, List.mem_append] at h
    rw [expL]
    rcases h with h | h
    · have := expE_ge hn e h; omega
    · have := expL_ge hn r h; omega
end
theorem expF_ge {l : List Cla} {e : Ex} {s : ByteArray} {d : Nat} (hs : s ∈ namesE e) (hd : defAt l s = some d) {f : Nat} (h : expF l f (l.getD d cla0).cond = 2001) : expF l (f + 1) e = 2001 := by
  have h1 := expF_le l (f + 1) e
  rw [expF] at h1 ⊢
  have := expE_ge (D := fun s => (defAt l s).map fun d => expF l f (l.getD d cla0).cond) (n := 2001) (by rw [hd]; simp only [Option.map_some]; rw [h]) e hs
  omega
/-- The definition d is reached from e. -/
inductive Reach (l : List Cla) (e : Ex) : Nat → Prop
  | base {s : ByteArray} {d : Nat} : s ∈ namesE e → defAt l s = some d → Reach l e d
  | step {d d' : Nat} {s : ByteArray} : Reach l e d → s ∈ namesE (l.getD d cla0).cond → defAt l s = some d' → Reach l e d'
theorem Reach.large {l : List Cla} {e : Ex} {d : Nat} (h : Reach l e d) : (∀ f, expF l f (l.getD d cla0).cond = 2001) → ∀ f, expF l f e = 2001 := by
  induction h with
  | base hs hd =>
    intro h f
    cases f with
    | zero => rfl
    | succ f => exact expF_ge hs hd (h f)
  | step _ hs hd ih =>
    intro h
    refine ih fun f => ?_
    cases f with
    | zero => rfl
    | succ f => exact expF_ge hs hd (h f)
/-- u are the definitions of l that e reaches. -/
structure Used (l : List Cla) (e : Ex) (u : List Cla) : Prop where
  defs : ∀ c ∈ u, c.kind = 1 ∧ ∃ d, defAt l c.name = some d ∧ c.cond = (l.getD d cla0).cond ∧ Reach l e d
  names : (u.map (·.name)).Nodup
  top : ∀ s ∈ namesE e, ∀ d, defAt l s = some d → s ∈ u.map (·.name)
  closed : ∀ c ∈ u, ∀ s ∈ namesE c.cond, ∀ d, defAt l s = some d → s ∈ u.map (·.name)
theorem Used.defAt {l : List Cla} {e : Ex} {u : List Cla} (h : Used l e u) {i : Nat} (hi : i < u.length) : defAt u u[i].name = some i := by
  unfold Proofs.Ytfjlglefodndjaa.defAt
  rw [List.findIdx?_eq_some_iff_getElem]
  refine ⟨hi, ?_, fun j hj => ?_⟩
  · have := (h.defs u[i] (List.getElem_mem hi)).1
    simp [this]
  · have hne : u[j].name ≠ u[i].name := by
      have := (List.pairwise_iff_getElem.1 h.names) j i (by simp; omega) (by simpa using hi) hj
      simpa using this
    simp [hne]
theorem Used.at {l : List Cla} {e : Ex} {u : List Cla} (h : Used l e u) {s : ByteArray} (hm : s ∈ u.map (·.name)) : ∃ i d, i < u.length ∧ Proofs.Ytfjlglefodndjaa.defAt u s = some i ∧ Proofs.Ytfjlglefodndjaa.defAt l s = some d ∧ (u.getD i cla0).cond = (l.getD d cla0).cond := by
  obtain ⟨c, hc, rfl⟩ := List.mem_map.1 hm
  obtain ⟨i, hi, rfl⟩ := List.mem_iff_getElem.1 hc
  obtain ⟨_, d, h1, h2, _⟩ := h.defs _ hc
  exact ⟨i, d, hi, h.defAt hi, h1, by rw [getD_cla hi]; exact h2⟩
theorem Used.only {l : List Cla} {e : Ex} {u : List Cla} (h : Used l e u) {s : ByteArray} (hn : Proofs.Ytfjlglefodndjaa.defAt l s = none) : Proofs.Ytfjlglefodndjaa.defAt u s = none := by
  cases hd : Proofs.Ytfjlglefodndjaa.defAt u s with
  | none => rfl
  | some i =>
    have hi := defAt_lt hd
    have h1 := (defAt_name hd).1
    rw [getD_cla hi] at h1
    obtain ⟨_, d, h2, _⟩ := h.defs _ (List.getElem_mem hi)
    rw [h1, hn] at h2
    cases h2
/-- Within what is reached, both lists give the same counts. -/
theorem Used.same {l : List Cla} {e : Ex} {u : List Cla} (h : Used l e u) : ∀ f x, (∀ s ∈ namesE x, ∀ d, Proofs.Ytfjlglefodndjaa.defAt l s = some d → s ∈ u.map (·.name)) → expF u f x = expF l f x := by
  intro f
  induction f with
  | zero => intro x _; rfl
  | succ f ih =>
    intro x hx
    rw [expF, expF]
    refine expE_congr _ fun s hs => ?_
    cases hd : Proofs.Ytfjlglefodndjaa.defAt l s with
    | none => rw [h.only hd]; rfl
    | some d =>
      obtain ⟨i, d', hi, h1, h2, h3⟩ := h.at (hx s hs d hd)
      rw [hd] at h2
      cases h2
      rw [h1]
      simp only [Option.map_some, h3, Option.some.injEq]
      refine ih _ fun t ht d2 hd2 => ?_
      rw [← h3, getD_cla hi] at ht
      exact h.closed _ (List.getElem_mem hi) t ht d2 hd2
theorem Used.len {l : List Cla} {e : Ex} {u : List Cla} (h : Used l e u) : u.length ≤ l.length := by
  have key := nodup_le (u.map fun c => (Proofs.Ytfjlglefodndjaa.defAt l c.name).getD 0) (List.range l.length) ?_ ?_
  · simpa using key
  · rw [List.Nodup, List.pairwise_map]
    have h1 := h.names
    rw [List.Nodup, List.pairwise_map] at h1
    refine h1.imp_of_mem fun {a b} ha hb hne he => ?_
    obtain ⟨_, d, h2, _⟩ := h.defs a ha
    obtain ⟨_, d', h3, _⟩ := h.defs b hb
    rw [h2, h3] at he
    simp only [Option.getD_some] at he
    subst he
    exact hne ((defAt_name h2).1.symm.trans (defAt_name h3).1)
  · intro x hx
    obtain ⟨c, hc, rfl⟩ := List.mem_map.1 hx
    obtain ⟨_, d, h2, _⟩ := h.defs c hc
    rw [h2]
    exact List.mem_range.2 (defAt_lt h2)
theorem Used.good {l : List Cla} {e : Ex} {u : List Cla} (h : Used l e u) {o : List Nat} (ht : Topo (u.map Cla.dfn) o) (hb : ∀ c ∈ u, bareE c.cond = true) (he : bareE e = true) : szE (sizesF u o) e = expanded l e := by
  have hlt : ∀ i ∈ o, i < u.length := fun i hi => by simpa using ht.lt hi
  rw [sizes_exp ht (fun i hi => by rw [getD_cla (hlt i hi)]; exact h.defAt (hlt i hi)) (fun i hi => by rw [getD_cla (hlt i hi)]; exact hb _ (List.getElem_mem _)) e he]
  unfold expanded
  rw [← h.same (l.length + 1) e h.top, expF, expF]
  refine expE_congr _ fun s hs => ?_
  cases hd : Proofs.Ytfjlglefodndjaa.defAt u s with
  | none => rfl
  | some i =>
    have hi := defAt_lt hd
    have hio : i ∈ o := (ht.all i).2 (by rw [isDef_dfn hi, (h.defs _ (List.getElem_mem hi)).1]; rfl)
    obtain ⟨q, hq⟩ := List.mem_iff_getElem?.1 hio
    have hql : q < o.length := (List.getElem?_eq_some_iff.1 hq).1
    have h1 := ht.len
    have h2 := h.len
    simp only [List.length_map] at h1
    simp only [Option.map_some, Option.some.injEq]
    exact expF_stable ht q i hq _ _ (by omega) (by omega)
theorem Used.cyclic {l : List Cla} {e : Ex} {u : List Cla} (h : Used l e u) {o : List Nat} (ho : OInv (u.map Cla.dfn) o []) (hc : o.length < countOf (u.map Cla.dfn)) : expanded l e = 2001 := by
  have hbad : ∀ f i, (hi : i < u.length) → i ∉ o → expF u f u[i].cond = 2001 := by
    intro f
    induction f with
    | zero => intro i _ _; rfl
    | succ f ih =>
      intro i hi hio
      have hdef : isDef (u.map Cla.dfn) i = true := by rw [isDef_dfn hi, (h.defs _ (List.getElem_mem hi)).1]; rfl
      have hm : missL (u.map Cla.dfn) o i ≠ [] := fun hm => hio (by have := (ho.ready i).2 ⟨hdef, hm⟩; simpa using this)
      obtain ⟨s, hs⟩ := List.exists_mem_of_ne_nil _ hm
      obtain ⟨h1, d, h2, h3⟩ := mem_miss.1 hs
      rw [usesAt_dfn hi, refNames_mem] at h1
      rw [firstAt_dfn] at h2
      have hdl := defAt_lt h2
      refine expF_ge h1 h2 ?_
      rw [getD_cla hdl]
      exact ih d hdl h3
  obtain ⟨i, hi, hio⟩ : ∃ i, i < u.length ∧ i ∉ o := by
    refine Classical.byContradiction fun hn => ?_
    have := nodup_le _ o (List.nodup_range.filter (isDef (u.map Cla.dfn))) fun i hi => Classical.byContradiction fun hio => hn ⟨i, by simpa using isDef_lt (mem_defs.1 hi), hio⟩
    unfold countOf at hc
    omega
  obtain ⟨_, d, h1, h2, h3⟩ := h.defs _ (List.getElem_mem hi)
  refine h3.large (fun f => ?_) _
  rw [← h2, ← h.same f u[i].cond (h.closed _ (List.getElem_mem hi))]
  exact hbad f i hi hio
end Go.Proofs.Ytfjlglefodndjaa

namespace Go.Proofs.Ytfjlglefodndjaa
open Go.RowKit Go.Maps

/-! check.expanded: the count with the sizes of a map. -/
def natF (D : ByteArray → Option Nat) : ByteArray → Option Value := fun s => (D s).map fun (n : Nat) => Value.int .i64 (n : Int)
mutual
theorem szE_le {D : ByteArray → Option Nat} (hD : ∀ s n, D s = some n → n ≤ 2001) : (e : Ex) → szE D e ≤ 2001
  | .mk op name _ _ _ args => by
    rw [szE]
    have hl := szL_le hD args 1 (by omega)
    by_cases h3 : op = 3
    · rw [if_pos h3]
      cases hd : D name with
      | none => exact hl
      | some n => exact hD name n hd
    · rw [if_neg h3]
      exact hl
theorem szL_le {D : ByteArray → Option Nat} (hD : ∀ s n, D s = some n → n ≤ 2001) : (l : List Ex) → ∀ n, n ≤ 2001 → szL D n l ≤ 2001
  | [], n, hn => by simp [szL]; omega
  | e :: r, n, hn => by
    rw [szL]
    exact szL_le hD r _ (by omega)
end
def CExpL (D : ByteArray → Option Nat) (na : Nat) (args : List Ex) (w1 : World) (t i : Value) (wr : World) : Prop := ∃ k : Nat, i = .int .i64 k ∧ k ≤ na ∧ t = .int .i64 ((szL D 1 (args.take k) : Nat) : Int) ∧ szL D 1 (args.take k) ≤ 2001 ∧ Ext w1 wr
set_option maxRecDepth 100000 in
set_option maxHeartbeats 8000000 in
theorem cexp_calls (D : ByteArray → Option Nat) (hD : ∀ s n, D s = some n → n ≤ 2001) (bm nm : Nat) : ∀ (m : Nat) (e : Ex) (ev : Value) (w : World), e.size ≤ m → m ≤ 1000000000000000 → e.fits → MapAt w 9 bm nm (strF (natF D)) → IsEx w e ev →
    Calls Try.prog 27 #[.map (some bm), ev] w (GivesE (.int .i64 (szE D e)) w) := by
  intro m
  induction m with
  | zero => intro e ev w h; have := size_pos e; omega
  | succ m ihm =>
    intro e ev w hm hMM hfit hmap he
    obtain ⟨aw, nw, cw, aa, na, ca, rfl, hw, hna, hca, ha, hx⟩ := he.parts
    obtain ⟨hnm, hfa⟩ := fits_parts2 hfit
    have hS : e.size = 1 + sizes e.args := e.size_eq
    have hla := length_le_sizes e.args
    have hna2 : na ≤ 1000000000000000 := by omega
    have hszm : sizes e.args ≤ m := by omega
    have HM := Lib.hid hmap
    have HX := Lib.hid hx
    have HNA := Lib.hid hna
    have HFA := Lib.hid hfa
    have HSL := Lib.hid (szE_le hD)
    have HEQ := Lib.hid (szE_eq' D e)
    have IHM := Lib.hid ihm
    clear hw hna hca ha hx he hS hla ihm hm hfa hfit hmap
    unfold exV
    obtain ⟨wa, hwa⟩ : ∃ wa, wa = w.alloc (.cells #[.int .i64 e.op, .string e.name, .slice aw nw cw, .int .i64 e.lo, .int .i64 e.hi, .slice aa na ca] 33) := ⟨_, rfl⟩
    have hxa : Ext w wa := by rw [hwa]; exact (Ext.refl _).alloc _
    have hb1 : wa.heap[w.heap.size]? = some (.cells #[.int .i64 e.op, .string e.name, .slice aw nw cw, .int .i64 e.lo, .int .i64 e.hi, .slice aa na ca] 33 (0, 0)) := by rw [hwa]; exact alloc_new w _
    have HXA := Lib.hid hxa
    have HB1 := Lib.hid hb1
    obtain ⟨f0, f1, f2, f3, f4, f5, ff⟩ := blk6 hb1
    have hltw := blk_lt hb1
    have HMA := Lib.hid (HM.out.ext hxa)
    clear hxa hb1
    by_cases hdef : e.op = 3 ∧ (D e.name).isSome = true
    · obtain ⟨h3, hds⟩ := hdef
      obtain ⟨q, hq⟩ := Option.isSome_iff_exists.1 hds
      have t3 : (e.op == 3) = true := by simp [h3]
      have HQ := Lib.hid (show szE D e = q by rw [HEQ.out, if_pos h3, hq])
      have HF := Lib.hid (show strF (natF D) (.string e.name.data.toList) = some (.int .i64 q) by rw [strF_at, natF, hq]; rfl)
      clear hds hq h3 HEQ
      go_enter Try.func27, Try.ntmps27
      go_upto_region 2 with fail
      rw [← hwa]
      clear hwa
      go_wp2_with (at_lookup; refine wpList_map_ok _ rfl _ _ 51 rfl 9 3 keyedStr uMapSI (zeroInt _) bm nm _ rfl HMA.out _ _ rfl (keyStr hnm) trivial ?_; rw [HF.out])
      go_ret
      exact givesE_of (by rw [HQ.out]) HXA.out
    · have HQ := Lib.hid (show szE D e = szL D 1 e.args by
        rw [HEQ.out]
        by_cases h3 : e.op = 3
        · rw [if_pos h3]
          cases hd : D e.name with
          | none => rfl
          | some q => exact absurd ⟨h3, by rw [hd]; rfl⟩ hdef
        · rw [if_neg h3])
      clear HEQ
      by_cases h3 : e.op = 3
      case' pos =>
        have t3 : (e.op == 3) = true := by simp [h3]
        have HF := Lib.hid (show strF (natF D) (.string e.name.data.toList) = none by
          rw [strF_at, natF]
          cases hd : D e.name with
          | none => rfl
          | some q => exact absurd ⟨h3, by rw [hd]; rfl⟩ hdef)
        clear h3 hdef
        go_enter Try.func27, Try.ntmps27
        go_upto_region 2 with fail
        rw [← hwa]
        clear hwa
        go_wp2_with (at_lookup; refine wpList_map_ok _ rfl _ _ 51 rfl 9 3 keyedStr uMapSI (zeroInt _) bm nm _ rfl HMA.out _ _ rfl (keyStr hnm) trivial ?_; rw [HF.out])
        clear HF
      case' neg =>
        have t3 : (e.op == 3) = false := by simp [h3]
        clear h3 hdef
        go_enter Try.func27, Try.ntmps27
        go_wp2_with fail
        rw [← hwa]
        clear hwa
      all_goals
        clear f0 f1 f2 f3 f4 f5 ff
        go_loopw [7, 25] (CExpL D na e.args wa) (fun _ i _ => na - (intOf i).toNat)
        case atStart => exact ⟨0, rfl, by omega, by simp [szL], by simp [szL], Ext.refl _⟩
        case round =>
          obtain ⟨k, rfl, hk, rfl, hle, hxr⟩ := hrel
          have HXR := Lib.hid hxr
          clear hxr
          obtain ⟨N, hN⟩ : ∃ N, N = szL D 1 (e.args.take k) := ⟨_, rfl⟩
          rw [← hN] at hle ⊢
          have HNN := Lib.hid hN
          clear hN
          by_cases hkn : k < na
          · have hka : k < e.args.length := by have := HNA.out; omega
            have t1 : decide ((k : Int) < (na : Int)) = true := decide_eq_true (by omega)
            obtain ⟨b, off, rfl, aw1, nw1, cw1, aa1, na1, ca1, h0, h1, h2, h3, h4, h5, h6⟩ := ExsD.at e.args _ (ExsD.ext (HXA.out.trans HXR.out) e.args _ HX.out) k hka
            have H6 := Lib.hid h6
            have hs1 := sizes_take_succ e.args k hka
            have hs2 := sizes_take_le e.args (k + 1)
            have hk1 : e.args[k].size ≤ m := by omega
            have HTS := Lib.hid (szL_take_succ D e.args 1 k hka)
            have hel := HSL.out e.args[k]
            have hblt := block_lt h0
            simp only at hblt
            clear h6 hs1 hs2
            obtain ⟨wx, hwx⟩ : ∃ wx, wx = wr.alloc (.cells #[.int .i64 e.args[k].op, .string e.args[k].name, .slice aw1 nw1 cw1, .int .i64 e.args[k].lo, .int .i64 e.args[k].hi, .slice aa1 na1 ca1] 33) := ⟨_, rfl⟩
            have HXX := Lib.hid (show Ext wr wx by rw [hwx]; exact (Ext.refl _).alloc _)
            go_wp2_with fail
            rw [← hwx]
            clear hwx
            refine (IHM.out e.args[k] _ _ hk1 (by omega) (HFA.out _ (List.getElem_mem hka)) (HMA.out.ext (HXR.out.trans HXX.out)) (H6.out.ext HXX.out)).mono ?_
            rintro r w3 ⟨rfl, hx3⟩
            have HX3 := Lib.hid (HXR.out.trans (HXX.out.trans hx3))
            clear hx3 h0 h1 h2 h3 h4 h5
            go_wp2_with fail
            all_goals
              go_roundw
              case rel => exact ⟨k + 1, by go_num, by omega, by rw [HTS.out, ← HNN.out]; congr 1; omega, by rw [HTS.out]; omega, HX3.out⟩
              case measure => simp [intOf]; omega
          · have t1 : decide ((k : Int) < (na : Int)) = false := decide_eq_false (by omega)
            have HR := Lib.hid (show N = szE D e by rw [HQ.out, HNN.out, List.take_of_length_le (by have := HNA.out; omega)])
            have HXE := Lib.hid (HXA.out.trans HXR.out)
            go_wp2_with fail
            go_ret
            exact givesE_of (by rw [← HR.out]) HXE.out
end Go.Proofs.Ytfjlglefodndjaa

namespace Go.Proofs.Ytfjlglefodndjaa
open Go.RowKit Go.Maps

/-! check.definitions: a map from names to conditions. -/
theorem uMapSE : Try.prog.underlying 70 = some (.map 9 33) := by kernel_rfl
theorem zeroEx (w : World) : (zeroValue 33).run Try.prog w = .ok (.agg #[.int .i64 0, .string ⟨#[]⟩, .slice none 0 0, .int .i64 0, .int .i64 0, .slice none 0 0]) w := by kernel_rfl
theorem defAt_take {l : List Cla} {k : Nat} (hk : k < l.length) (s : ByteArray) : defAt (l.take (k + 1)) s = match defAt (l.take k) s with | some d => some d | none => if l[k].kind = 1 ∧ l[k].name = s then some k else none := by
  have h := first_take (l := l.map Cla.dfn) (k := k) (by simpa using hk) s
  rw [← List.map_take, ← List.map_take, firstAt_dfn, firstAt_dfn] at h
  rw [h]
  cases defAt (l.take k) s <;> simp [Cla.dfn]
/-- What the map g holds: the conditions of the first definition of each name. -/
def DefsG (w : World) (l : List Cla) (g : ByteArray → Option Value) : Prop := ∀ s, (defAt l s = none → g s = none) ∧ ∀ d, defAt l s = some d → ∃ v, g s = some v ∧ IsEx w (l.getD d cla0).cond v
theorem DefsG.ext {w w' : World} {l : List Cla} {g : ByteArray → Option Value} (h : DefsG w l g) (hx : Ext w w') : DefsG w' l g := fun s => ⟨(h s).1, fun d hd => by obtain ⟨v, h1, h2⟩ := (h s).2 d hd; exact ⟨v, h1, h2.ext hx⟩⟩
def DefsAt (w : World) (l : List Cla) (b n : Nat) : Prop := ∃ g, MapAt w 9 b n (strF g) ∧ DefsG w l g
theorem DefsAt.ext {w w' : World} {l : List Cla} {b n : Nat} (h : DefsAt w l b n) (hx : Ext w w') : DefsAt w' l b n := by
  obtain ⟨g, h1, h2⟩ := h
  exact ⟨g, h1.ext hx, h2.ext hx⟩
theorem getD_take {l : List Cla} {k d : Nat} (hd : d < k) : (l.take k).getD d cla0 = l.getD d cla0 := by simp [List.getD, hd]
theorem DefsG.skip {w : World} {l : List Cla} {k : Nat} {g : ByteArray → Option Value} (hk : k < l.length) (h : DefsG w (l.take k) g) (hs : l[k].kind ≠ 1 ∨ defAt (l.take k) l[k].name ≠ none) : DefsG w (l.take (k + 1)) g := by
  intro s
  have hdd : ∀ d, defAt (l.take k) s = some d → d < k := fun d hd => by have := defAt_lt hd; simp at this; omega
  have key : defAt (l.take (k + 1)) s = defAt (l.take k) s := by
    rw [defAt_take hk]
    cases hd : defAt (l.take k) s with
    | some d => rfl
    | none =>
      rw [if_neg]
      rintro ⟨h1, h2⟩
      rcases hs with h3 | h3
      · exact h3 h1
      · rw [h2] at h3; exact h3 hd
  rw [key]
  refine ⟨(h s).1, fun d hd => ?_⟩
  have := hdd d hd
  rw [getD_take (by omega), ← getD_take (k := k) this]
  exact (h s).2 d hd
theorem DefsG.step {w : World} {l : List Cla} {k : Nat} {g : ByteArray → Option Value} (hk : k < l.length) (h : DefsG w (l.take k) g) (hk1 : l[k].kind = 1) (hn : defAt (l.take k) l[k].name = none) {v : Value} (hv : IsEx w l[k].cond v) : DefsG w (l.take (k + 1)) (upS g l[k].name (some v)) := by
  intro s
  rw [defAt_take hk]
  by_cases e : s = l[k].name
  · subst e
    rw [hn, upS_same]
    simp only [hk1, and_self, if_true]
    refine ⟨fun h => by simp at h, fun d hd => ?_⟩
    obtain rfl : k = d := by simpa using hd
    rw [getD_take (by omega), getD_cla hk]
    exact ⟨v, rfl, hv⟩
  · rw [upS_other _ _ e]
    cases hd : defAt (l.take k) s with
    | none =>
      have : ¬ (l[k].kind = 1 ∧ l[k].name = s) := fun h => e h.2.symm
      simp only [if_neg this]
      exact ⟨fun _ => (h s).1 hd, fun d hd' => by cases hd'⟩
    | some d =>
      have hdk : d < k := by have := defAt_lt hd; simp at this; omega
      refine ⟨fun h => by simp at h, fun d' hd' => ?_⟩
      obtain rfl : d = d' := by simpa using hd'
      rw [getD_take (by omega), ← getD_take (k := k) hdk]
      exact (h s).2 d hd
def DefsQ (l : List Cla) (n : Nat) (w : World) (e : Ending) (w' : World) : Prop := ∃ b, e = .returned (.map (some b)) ∧ DefsAt w' l b n ∧ Ext w w'
set_option maxRecDepth 100000 in
set_option maxHeartbeats 8000000 in
theorem definitions_calls (l : List Cla) (a : Option Addr) (n c : Nat) (w : World) (hl : IsClas w l a n c) (hn : n ≤ 1000000) (hsz : ∀ x ∈ l, x.name.size ≤ 1000000000000000) :
    Calls Try.prog 26 #[.slice a n c] w (DefsQ l n w) := by
  have HL := Lib.hid hl
  have HN := Lib.hid hl.len
  have HSZ := Lib.hid hsz
  clear hl hsz
  have hmm := @run_makeMap Try.prog
  have HM0 := Lib.hid (MapAt.made w 9)
  have HX0 := Lib.hid ((Ext.refl w).alloc (.map #[] 0))
  obtain ⟨bf, hbf⟩ : ∃ bf : Nat, bf = w.heap.size := ⟨_, rfl⟩
  rw [← hbf] at HM0
  have HBF := Lib.hid hbf
  go_enter Try.func26, Try.ntmps26
  go_wp2_with fail
  rw [← hbf]
  clear hbf hmm
  go_loopw [11] (fun i wr => ∃ (k : Nat) (g : ByteArray → Option Value), k ≤ n ∧ i = .int .i64 k ∧ MapAt wr 9 bf k (strF g) ∧ DefsG w (l.take k) g ∧ Ext w wr) (fun i _ => n - (intOf i).toNat)
  case atStart =>
    refine ⟨0, fun _ => none, by omega, rfl, HM0.out.congr fun x => ?_, fun s => ⟨fun _ => rfl, fun d hd => ?_⟩, HX0.out⟩
    · cases x <;> simp [strF]
    · simp [defAt] at hd
  case round =>
    obtain ⟨k, g, hk, rfl, hmap, hg, hx⟩ := hrel
    have HMP := Lib.hid hmap
    have HX := Lib.hid hx
    have HG := Lib.hid hg
    have hbw := hmap.lt
    clear hmap hx hg HM0 HX0
    by_cases hlt : k < n
    · have hlt' : k < l.length := by have := HN.out; omega
      have t1 : decide ((k : Int) < (n : Int)) = true := decide_eq_true (by omega)
      obtain ⟨cb, coff, v, rfl, hcla, hrow⟩ := HL.out.at hlt'
      obtain ⟨c0, c1, c2, c3, c4, c5, c6, c7, c8, c9⟩ := (hrow.mono HX.out.sub).ten
      have hns : v.name.size ≤ 1000000000000000 := by rw [hcla.2.1]; exact HSZ.out _ (List.getElem_mem hlt')
      have hblt := block_lt c0
      simp only at hblt
      have HEX := Lib.hid (show IsEx w l[k].cond (.agg #[.int .i64 v.x.op, .string v.x.name, .slice v.x.aw v.x.nw v.x.cw, .int .i64 v.x.lo, .int .i64 v.x.hi, .slice v.x.aa v.x.na v.x.ca]) from hcla.2.2.1)
      have HEK := Lib.hid (show l[k].kind = v.kind from hcla.1.symm)
      have HEN := Lib.hid (show l[k].name = v.name from hcla.2.1.symm)
      have HST := Lib.hid (fun h1 h2 => HG.out.step hlt' h1 h2 HEX.out)
      have HSK := Lib.hid (HG.out.skip hlt')
      rw [HEK.out, HEN.out] at HST HSK
      clear hcla hrow
      cases hfa : defAt (l.take k) v.name with
      | none =>
        have HF := Lib.hid (show strF g (.string v.name.data.toList) = none by rw [strF_at]; exact (HG.out _).1 hfa)
        cases hkd : (v.kind == 1)
        · have HKN := Lib.hid (HSK.out (Or.inl (by simpa using hkd)))
          go_wp2_with (at_lookup; refine wpList_map_ok _ rfl _ _ 70 rfl 9 33 keyedStr uMapSE (zeroEx _) bf k _ rfl (HMP.out.ext ((Ext.refl wr).alloc _)) _ _ rfl (keyStr hns) trivial ?_; rw [HF.out])
          go_roundw
          case rel => exact ⟨k + 1, g, by omega, by go_num, (HMP.out.ext (((Ext.refl wr).alloc _).alloc _)).more (by omega), HKN.out, (HX.out.alloc _).alloc _⟩
          case measure => simp [intOf]; omega
        · have HKN := Lib.hid (HST.out (by simpa using hkd) hfa)
          clear hfa
          go_wp2_with (first
            | (at_lookup; refine wpList_map_ok _ rfl _ _ 70 rfl 9 33 keyedStr uMapSE (zeroEx _) bf k _ rfl (HMP.out.ext ((Ext.refl wr).alloc _)) _ _ rfl (keyStr hns) trivial ?_; rw [HF.out])
            | (at_mapUpdate; refine wpList_map_put _ rfl _ _ _ 70 rfl 9 33 keyedStr uMapSE bf k _ rfl (HMP.out.ext (((Ext.refl wr).alloc _).alloc _)) ?c3 _ _ _ rfl rfl (keyStr hns) trivial ?_))
          case c3 => unfold maxLen; omega
          intro w1 hm1 hc1
          have HM1 := Lib.hid (hm1.congr (setF_str g v.name _))
          have HX1 := Lib.hid (hc1.ext ((HX.out.alloc _).alloc _) (by rw [← HBF.out]; simp))
          clear hm1 hc1
          go_wp2_with fail
          go_roundw
          case rel => exact ⟨k + 1, _, by omega, by go_num, HM1.out, HKN.out, HX1.out⟩
          case measure => simp [intOf]; omega
      | some d =>
        obtain ⟨u, hu, hux⟩ := (HG.out v.name).2 d hfa
        obtain ⟨aw, nw, cw, aa, na, ca, rfl, -, -, -, -, -⟩ := hux.parts
        have HF := Lib.hid (show strF g (.string v.name.data.toList) = some _ by rw [strF_at]; exact hu)
        have HKN := Lib.hid (HSK.out (Or.inr (by rw [hfa]; simp)))
        unfold exV at HF
        clear hfa hu hux
        cases hkd : (v.kind == 1)
        all_goals
          go_wp2_with (at_lookup; refine wpList_map_ok _ rfl _ _ 70 rfl 9 33 keyedStr uMapSE (zeroEx _) bf k _ rfl (HMP.out.ext ((Ext.refl wr).alloc _)) _ _ rfl (keyStr hns) trivial ?_; rw [HF.out])
          go_roundw
          case rel => exact ⟨k + 1, g, by omega, by go_num, (HMP.out.ext (((Ext.refl wr).alloc _).alloc _)).more (by omega), HKN.out, (HX.out.alloc _).alloc _⟩
          case measure => simp [intOf]; omega
    · have t1 : decide ((k : Int) < (n : Int)) = false := decide_eq_false (by omega)
      have hkn : k = n := by omega
      have HGE := Lib.hid (show DefsAt wr l bf n from ⟨g, by rw [← hkn]; exact HMP.out, by have := HG.out.ext HX.out; rwa [List.take_of_length_le (by have := HN.out; omega)] at this⟩)
      clear hkn
      go_wp2_with fail
      go_ret
      exact ⟨bf, rfl, HGE.out, HX.out⟩
end Go.Proofs.Ytfjlglefodndjaa

namespace Go.Proofs.Ytfjlglefodndjaa
open Go.RowKit Go.Maps

/-! check.reached: the plain invariants. -/
def nmsOf (u : List Cla) : List ByteArray := u.map (·.name)
def ClosedE (l u : List Cla) (x : Ex) : Prop := ∀ s ∈ namesE x, ∀ d, defAt l s = some d → s ∈ nmsOf u
structure RP (l : List Cla) (e : Ex) (u : List Cla) (xs : List Ex) : Prop where
  defs : ∀ c ∈ u, c.kind = 1 ∧ ∃ d, defAt l c.name = some d ∧ c.cond = (l.getD d cla0).cond ∧ Reach l e d
  names : (nmsOf u).Nodup
  top : e ∈ xs ∨ ClosedE l u e
  closed : ∀ c ∈ u, c.cond ∈ xs ∨ ClosedE l u c.cond
  stack : ∀ x ∈ xs, x = e ∨ ∃ c ∈ u, c.cond = x
  slen : xs.length ≤ u.length + 1
structure RPi (l : List Cla) (e : Ex) (u : List Cla) (xs : List Ex) (x : Ex) (ns : List ByteArray) (j : Nat) : Prop where
  defs : ∀ c ∈ u, c.kind = 1 ∧ ∃ d, defAt l c.name = some d ∧ c.cond = (l.getD d cla0).cond ∧ Reach l e d
  names : (nmsOf u).Nodup
  top : e ∈ xs ∨ e = x ∨ ClosedE l u e
  closed : ∀ c ∈ u, c.cond ∈ xs ∨ c.cond = x ∨ ClosedE l u c.cond
  stack : ∀ y ∈ xs, y = e ∨ ∃ c ∈ u, c.cond = y
  cur : x = e ∨ ∃ c ∈ u, c.cond = x
  done : ∀ i (h : i < ns.length), i < j → ∀ d, defAt l ns[i] = some d → ns[i] ∈ nmsOf u
  slen : xs.length ≤ u.length
theorem RP.start (l : List Cla) (e : Ex) : RP l e [] [e] := ⟨by simp, by simp [nmsOf], Or.inl (by simp), by simp, fun x hx => Or.inl (by simpa using hx), by simp⟩
theorem RP.pop {l : List Cla} {e : Ex} {u : List Cla} {xs : List Ex} {x : Ex} (h : RP l e u (xs ++ [x])) (ns : List ByteArray) : RPi l e u xs x ns 0 := by
  refine ⟨h.defs, h.names, ?_, fun c hc => ?_, fun y hy => h.stack y (by simp [hy]), h.stack x (by simp), fun i _ h => by omega, by have := h.slen; simpa using this⟩
  · rcases h.top with h1 | h1
    · rcases List.mem_append.1 h1 with h2 | h2
      · exact Or.inl h2
      · exact Or.inr (Or.inl (by simpa using h2))
    · exact Or.inr (Or.inr h1)
  · rcases h.closed c hc with h1 | h1
    · rcases List.mem_append.1 h1 with h2 | h2
      · exact Or.inl h2
      · exact Or.inr (Or.inl (by simpa using h2))
    · exact Or.inr (Or.inr h1)
theorem RPi.end {l : List Cla} {e : Ex} {u : List Cla} {xs : List Ex} {x : Ex} {ns : List ByteArray} {j : Nat} (h : RPi l e u xs x ns j) (hj : ns.length ≤ j) (hns : ∀ s, s ∈ ns ↔ s ∈ namesE x) : RP l e u xs := by
  have hx : ClosedE l u x := fun s hs d hd => by
    obtain ⟨i, hi, rfl⟩ := List.mem_iff_getElem.1 ((hns s).2 hs)
    exact h.done i hi (by omega) d hd
  refine ⟨h.defs, h.names, ?_, fun c hc => ?_, h.stack, Nat.le_succ_of_le h.slen⟩
  · rcases h.top with h1 | rfl | h1
    · exact Or.inl h1
    · exact Or.inr hx
    · exact Or.inr h1
  · rcases h.closed c hc with h1 | h1 | h1
    · exact Or.inl h1
    · exact Or.inr (h1 ▸ hx)
    · exact Or.inr h1
theorem RPi.skip {l : List Cla} {e : Ex} {u : List Cla} {xs : List Ex} {x : Ex} {ns : List ByteArray} {j : Nat} (h : RPi l e u xs x ns j) (hj : j < ns.length) (hs : defAt l ns[j] = none ∨ ns[j] ∈ nmsOf u) : RPi l e u xs x ns (j + 1) :=
  ⟨h.defs, h.names, h.top, h.closed, h.stack, h.cur, fun i hi hij d hd => by
    by_cases e' : i = j
    · subst e'
      rcases hs with h1 | h1
      · rw [h1] at hd; cases hd
      · exact h1
    · exact h.done i hi (by omega) d hd, h.slen⟩
theorem nmsOf_snoc (u : List Cla) (c : Cla) : nmsOf (u ++ [c]) = nmsOf u ++ [c.name] := by simp [nmsOf]
theorem RPi.step {l : List Cla} {e : Ex} {u : List Cla} {xs : List Ex} {x : Ex} {ns : List ByteArray} {j : Nat} (h : RPi l e u xs x ns j) (hj : j < ns.length) (hns : ∀ s, s ∈ ns ↔ s ∈ namesE x) {d : Nat} (hd : defAt l ns[j] = some d) (hn : ns[j] ∉ nmsOf u) {c : Cla} (hk : c.kind = 1) (hnm : c.name = ns[j]) (hc : c.cond = (l.getD d cla0).cond) :
    RPi l e (u ++ [c]) (xs ++ [c.cond]) x ns (j + 1) := by
  have up : ∀ y, ClosedE l u y → ClosedE l (u ++ [c]) y := fun y hy s hs d hd => by rw [nmsOf_snoc]; exact List.mem_append_left _ (hy s hs d hd)
  refine ⟨fun c' hc' => ?_, ?_, ?_, fun c' hc' => ?_, fun y hy => ?_, ?_, fun i hi hij d' hd' => ?_, by have := h.slen; simp; omega⟩
  · rcases List.mem_append.1 hc' with h1 | h1
    · exact h.defs c' h1
    · obtain rfl : c' = c := by simpa using h1
      refine ⟨hk, d, by rw [hnm]; exact hd, hc, ?_⟩
      have hm := (hns _).1 (List.getElem_mem hj)
      rcases h.cur with rfl | ⟨c2, h2, rfl⟩
      · exact Reach.base hm hd
      · obtain ⟨_, d2, g1, g2, g3⟩ := h.defs c2 h2
        exact Reach.step g3 (g2 ▸ hm) hd
  · rw [nmsOf_snoc, List.nodup_append]
    refine ⟨h.names, by simp, fun a ha b hb e => ?_⟩
    simp only [List.mem_singleton] at hb
    subst e hb
    exact hn (hnm ▸ ha)
  · rcases h.top with h1 | h1 | h1
    · exact Or.inl (List.mem_append_left _ h1)
    · exact Or.inr (Or.inl h1)
    · exact Or.inr (Or.inr (up _ h1))
  · rcases List.mem_append.1 hc' with h1 | h1
    · rcases h.closed c' h1 with h2 | h2 | h2
      · exact Or.inl (List.mem_append_left _ h2)
      · exact Or.inr (Or.inl h2)
      · exact Or.inr (Or.inr (up _ h2))
    · obtain rfl : c' = c := by simpa using h1
      exact Or.inl (by simp)
  · rcases List.mem_append.1 hy with h1 | h1
    · rcases h.stack y h1 with h2 | ⟨c2, h2, h3⟩
      · exact Or.inl h2
      · exact Or.inr ⟨c2, List.mem_append_left _ h2, h3⟩
    · exact Or.inr ⟨c, by simp, (List.mem_singleton.1 h1).symm⟩
  · rcases h.cur with h1 | ⟨c2, h2, h3⟩
    · exact Or.inl h1
    · exact Or.inr ⟨c2, List.mem_append_left _ h2, h3⟩
  · rw [nmsOf_snoc]
    by_cases e' : i = j
    · subst e'; simp [hnm]
    · exact List.mem_append_left _ (h.done i hi (by omega) d' hd')
theorem RP.used {l : List Cla} {e : Ex} {u : List Cla} (h : RP l e u []) : Used l e u :=
  ⟨h.defs, h.names, fun s hs d hd => by rcases h.top with h1 | h1; · simp at h1
                                        · exact h1 s hs d hd,
   fun c hc s hs d hd => by rcases h.closed c hc with h1 | h1; · simp at h1
                            · exact h1 s hs d hd⟩
theorem defs_len {l : List Cla} {e : Ex} {u : List Cla} (h1 : ∀ c ∈ u, c.kind = 1 ∧ ∃ d, defAt l c.name = some d ∧ c.cond = (l.getD d cla0).cond ∧ Reach l e d) (h2 : (nmsOf u).Nodup) : u.length ≤ l.length := by
  have key := nodup_le (u.map fun c => (defAt l c.name).getD 0) (List.range l.length) ?_ ?_
  · simpa using key
  · rw [List.Nodup, List.pairwise_map]
    rw [List.Nodup, nmsOf, List.pairwise_map] at h2
    refine h2.imp_of_mem fun {a b} ha hb hne he => ?_
    obtain ⟨_, d, g2, _⟩ := h1 a ha
    obtain ⟨_, d', g3, _⟩ := h1 b hb
    rw [g2, g3] at he
    simp only [Option.getD_some] at he
    subst he
    exact hne ((defAt_name g2).1.symm.trans (defAt_name g3).1)
  · intro x hx
    obtain ⟨c, hc, rfl⟩ := List.mem_map.1 hx
    obtain ⟨_, d, g2, _⟩ := h1 c hc
    rw [g2]
    exact List.mem_range.2 (defAt_lt g2)

/-! What it keeps in memory. -/
structure RcS (w : World) (bs : Nat) (lv xv : Value) (u : List Cla) (vs : List ClV) (xs : List Ex) (evs : List ExV) (wr : World) : Prop where
  ext : Ext w wr
  cla : ClasR w u vs
  own : wr.ownsRow w.heap.size 36 10 lv u.length (vs.flatMap ClV.cells)
  ex : ExsR w xs evs
  xown : wr.ownsRow w.heap.size 33 6 xv xs.length (evs.flatMap ExV.cells)
  seen : MapAt wr 9 bs u.length (strF (memF fun s => s ∈ nmsOf u))
  bsn : w.heap.size ≤ bs
  d1 : ∀ g, lv.ownBlock = some g → g ≠ bs
  d2 : ∀ g, xv.ownBlock = some g → g ≠ bs
  d3 : ∀ g, lv.ownBlock = some g → xv.ownBlock ≠ some g
theorem RcS.extd {w : World} {bs : Nat} {lv xv : Value} {u : List Cla} {vs : List ClV} {xs : List Ex} {evs : List ExV} {wr wr' : World} (h : RcS w bs lv xv u vs xs evs wr) (hx : Ext wr wr') : RcS w bs lv xv u vs xs evs wr' :=
  { h with ext := h.ext.trans hx, own := owns_chg h.own (hx.chg []) (by simp), xown := owns_chg h.xown (hx.chg []) (by simp), seen := h.seen.ext hx }
theorem flat_take {xs : List ExV} {x : ExV} : ((xs ++ [x]).flatMap ExV.cells).take (xs.length * 6) = xs.flatMap ExV.cells := by
  rw [List.flatMap_append, List.take_left']
  clear x
  induction xs with
  | nil => rfl
  | cons y r ih => simp only [List.flatMap_cons, List.length_append, exV_len, ih, List.length_cons]; omega
theorem owns_drop {w : World} {base : Nat} {g n cap : Nat} {xs : List ExV} {x : ExV} (hn : n = xs.length) (h : w.ownsRow base 33 6 (.slice (some ⟨g, 0, none⟩) (n + 1) cap) (n + 1) ((xs ++ [x]).flatMap ExV.cells)) :
    w.ownsRow base 33 6 (.slice (some ⟨g, 0, none⟩) n cap) n (xs.flatMap ExV.cells) := by
  obtain ⟨h1, h2⟩ := h
  have hl : (xs.flatMap ExV.cells).length = n * 6 := by
    subst hn
    clear h1 h2 x
    induction xs with
    | nil => rfl
    | cons y r ih => simp only [List.flatMap_cons, List.length_append, exV_len, ih, List.length_cons]; omega
  refine ⟨hl, Or.inr ?_⟩
  rcases h2 with ⟨h3, _⟩ | ⟨g', cap', cur, h3, h4, h5, h6, h7, h8, h9⟩
  · simp at h3
  · simp only [Value.slice.injEq, Option.some.injEq, Addr.mk.injEq, and_true, true_and] at h3
    obtain ⟨rfl, rfl⟩ := h3
    refine ⟨g, cap, cur, rfl, h4, h5, by omega, h7, h8, ?_⟩
    have e1 : cur.toList.take (n * 6) = (cur.toList.take ((n + 1) * 6)).take (n * 6) := by rw [List.take_take]; congr 1; omega
    rw [e1, h9, hn, flat_take]
/-- The last expression's cells. -/
theorem owns_last {w : World} {base : Nat} {n : Nat} {v : Value} {xs : List ExV} {x : ExV} (hn : n = xs.length) (h : w.ownsRow base 33 6 v (n + 1) ((xs ++ [x]).flatMap ExV.cells)) :
    ∃ g cap, v = .slice (some ⟨g, 0, none⟩) (n + 1) cap ∧ w.cell? ⟨g, n * 6, none⟩ = some (.int .i64 x.op) ∧ w.cell? ⟨g, n * 6 + 1, none⟩ = some (.string x.name) ∧ w.cell? ⟨g, n * 6 + 2, none⟩ = some (.slice x.aw x.nw x.cw) ∧ w.cell? ⟨g, n * 6 + 3, none⟩ = some (.int .i64 x.lo) ∧ w.cell? ⟨g, n * 6 + 4, none⟩ = some (.int .i64 x.hi) ∧ w.cell? ⟨g, n * 6 + 5, none⟩ = some (.slice x.aa x.na x.ca) := by
  subst hn
  have e0 : xs.length + 1 = (xs ++ [x]).length := by simp
  rw [e0] at h
  obtain ⟨a, c, rfl, hr⟩ := IsRows.of_owns exV_len h
  obtain ⟨b, off, rfl, hc⟩ := hr.2.2.2 xs.length (by simp)
  have ha : off = 0 := by
    obtain ⟨_, h2⟩ := h
    rcases h2 with ⟨h3, _⟩ | ⟨g', cap', cur, h3, _⟩
    · simp at h3
    · simp only [Value.slice.injEq, Option.some.injEq, Addr.mk.injEq, and_true] at h3
      exact h3.1.2
  subst ha
  have key : ∀ j (hj : j < 6), w.cell? ⟨b, xs.length * 6 + j, none⟩ = some (x.cells[j]'(by rw [exV_len]; exact hj)) := fun j hj => by
    have := hc j (by rw [exV_len]; exact hj)
    simpa using this
  refine ⟨b, c, by simp, ?_, ?_, ?_, ?_, ?_, ?_⟩
  · exact key 0 (by omega)
  · exact key 1 (by omega)
  · exact key 2 (by omega)
  · exact key 3 (by omega)
  · exact key 4 (by omega)
  · exact key 5 (by omega)
theorem owns_bounds {w : World} {base : Nat} {e : TypeId} {size g n cap : Nat} {xs : List Value} (h : w.ownsRow base e size (.slice (some ⟨g, 0, none⟩) n cap) n xs) : base ≤ g ∧ n ≤ cap ∧ g < w.heap.size ∧ cap ≤ maxLen := by
  obtain ⟨_, h2⟩ := h
  rcases h2 with ⟨h3, _⟩ | ⟨g', cap', cur, h3, h4, h5, h6, h7, _⟩
  · simp at h3
  · simp only [Value.slice.injEq, Option.some.injEq, Addr.mk.injEq, and_true, true_and] at h3
    obtain ⟨rfl, rfl⟩ := h3
    exact ⟨h4, h6, blk_lt h5, h7⟩
theorem RcS.step {w W w3 w8 w9 : World} {bs : Nat} {lv xv lv' xv' : Value} {u : List Cla} {vs : List ClV} {xs : List Ex} {evs : List ExV} (h : RcS w bs lv xv u vs xs evs W) {c : Cla} {cv : ClV} (hcv : IsCla w c cv) {x : Ex} {ev : ExV} (hev : IsEx w x ev.val) {F : Lit → Option Value}
    (hm : MapAt w3 9 bs (u.length + 1) F) (hF : ∀ y, F y = strF (memF fun s => s ∈ nmsOf (u ++ [c])) y) (hc3 : Chg [bs] W w3)
    (ho8 : w8.ownsRow w.heap.size 36 10 lv' (u.length + 1) (vs.flatMap ClV.cells ++ cv.cells)) (hc8 : Chg (rowOf lv) w3 w8) (hw8 : ∀ k, lv'.ownBlock = some k → lv.ownBlock = some k ∨ w3.heap.size ≤ k)
    (ho9 : w9.ownsRow w.heap.size 33 6 xv' (xs.length + 1) (evs.flatMap ExV.cells ++ ev.cells)) (hc9 : Chg (rowOf xv) w8 w9) (hw9 : ∀ k, xv'.ownBlock = some k → xv.ownBlock = some k ∨ w8.heap.size ≤ k) :
    RcS w bs lv' xv' (u ++ [c]) (vs ++ [cv]) (xs ++ [x]) (evs ++ [ev]) w9 := by
  have s3 := hc3.size
  have s8 := hc8.size
  have hbl := hm.lt
  have xlt : ∀ q, xv.ownBlock = some q → q < W.heap.size := fun q hq => (h.xown.lt q hq).2
  have llt : ∀ q, lv.ownBlock = some q → q < W.heap.size := fun q hq => (h.own.lt q hq).2
  exact {
    ext := hc9.ext (hc8.ext (hc3.ext h.ext (by simpa using h.bsn)) fun q hq => (h.own.lt q (mem_rowOf.1 hq)).1) fun q hq => (h.xown.lt q (mem_rowOf.1 hq)).1
    cla := h.cla.snoc hcv
    own := by
      have := owns_chg ho8 hc9 fun q hq hm => by
        have h2 := mem_rowOf.1 hm
        rcases hw8 q hq with h1 | h1
        · exact h.d3 q h1 h2
        · have := xlt q h2; omega
      simpa using this
    ex := h.ex.snoc hev
    xown := by simpa using ho9
    seen := by
      have := ((hm.chg hc8 fun hm => h.d1 bs (mem_rowOf.1 hm) rfl).chg hc9 fun hm => h.d2 bs (mem_rowOf.1 hm) rfl).congr hF
      simpa using this
    bsn := h.bsn
    d1 := fun q hq e => by
      rcases hw8 q hq with h1 | h1
      · exact h.d1 q h1 e
      · omega
    d2 := fun q hq e => by
      rcases hw9 q hq with h1 | h1
      · exact h.d2 q h1 e
      · omega
    d3 := fun q hq hq2 => by
      have h8 := (ho8.lt q hq).2
      rcases hw9 q hq2 with h2 | h2
      · rcases hw8 q hq with h1 | h1
        · exact h.d3 q h1 h2
        · have := xlt q h2; omega
      · omega }
theorem owns_new (w : World) (arr : Array Value) (e : TypeId) {size n base : Nat} (hs : arr.size = n * size) (hn : n ≤ maxLen) (hb : base ≤ w.heap.size) : (w.alloc (.cells arr e)).ownsRow base e size (.slice (some ⟨w.heap.size, 0, none⟩) n n) n arr.toList :=
  ⟨by simpa using hs, Or.inr ⟨w.heap.size, n, arr, rfl, hb, alloc_new w _, Nat.le_refl _, hn, hs, by rw [List.take_of_length_le (by simp; omega)]⟩⟩
end Go.Proofs.Ytfjlglefodndjaa
