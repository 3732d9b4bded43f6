/-
  Texts of the claim, joined: Made10, Reach0, Reach, Sizes, Expd, Before.
-/
import Derived.Test.YtfjlglefodndjaaGreatDoorCe26
import Derived.Test.YtfjlglefodndjaaGreatDoorCe18
import Derived.Test.YtfjlglefodndjaaGreatDoorCe14
import Derived.Test.YtfjlglefodndjaaGreatDoorCe10
import Derived.Test.YtfjlglefodndjaaGreatDoorCe24
import Derived.Test.YtfjlglefodndjaaGreatDoorCe13
import Derived.Test.YtfjlglefodndjaaGreatDoorCe20
import Derived.Test.YtfjlglefodndjaaGreatDoorCe25
import Derived.Test.YtfjlglefodndjaaGreatDoorCe16
import Derived.Test.YtfjlglefodndjaaGreatDoorCe22
namespace Go.Proofs.YtfjlglefodndjaaGreatDoor
open Go.RowKit

/-! treatylaw10.made. -/
def pcd : ByteArray := ⟨#[99, 45]⟩
def GnM (w0 : World) (bd rb : Nat) (wr W : World) : Prop := DeckAt w0 W bd ∧ Chg [bd, rb] wr W ∧ ∃ q, W.heap[rb]? = some (.cells #[q] 24 (0, 0))
def GnS (q bd rb k : Nat) (W W' : World) : Prop := Chg [bd, rb] W W' ∧ (k ≠ q → Chg [bd] W W')
--BEGIN DEF M3
def md3R (attrs : List Attr) (bd rb n : Nat) (sa : Option Addr) (sn sc : Nat) : Nat → Value → World → Prop
  | 0, u, _ => u = .agg #[.slice sa sn sc]
  | 1, u, _ => u = .pointer (some ⟨bd, 0, none⟩)
  | 2, u, _ => u = .agg #[.slice sa sn sc]
  | 3, u, _ => u = .int .i64 ((n : Nat) : Int)
  | 4, u, W => ∃ (l : List Cla) (la : Option Addr) (ln : Nat) (lc : Nat), u = .slice la ln lc ∧ (IsClas (mask W [bd, rb]) l la ln lc ∧ GLOk attrs pcd l ∧ 1 ≤ l.length ∧ l.length ≤ n + 1)
  | 5, u, _ => u = .pointer (some ⟨bd, 0, none⟩)
  | 6, _, W => W.heap[rb]? = some (.cells #[.slice sa sn sc] 24 (0, 0))
  | 7, u, W => ∃ (l : List Cla) (la : Option Addr) (ln : Nat) (lc : Nat), u = .slice la ln lc ∧ (IsClas (mask W [bd, rb]) l la ln lc ∧ GLOk attrs pcd l ∧ 1 ≤ l.length ∧ l.length ≤ n + 1)
  | _, u, _ => u = .pointer (some ⟨bd, 0, none⟩)
--END DEF M3
def MadeSQ (n : Nat) (w : World) (e : Ending) (w' : World) : Prop := ∃ attrs sa sn sc l la ln lc bd, e = .returned (.tuple #[.agg #[.slice sa sn sc], .slice la ln lc, .pointer (some ⟨bd, 0, none⟩)]) ∧ attrs ∈ schemas ∧ IsSchema (mask w' [bd]) attrs (.agg #[.slice sa sn sc]) ∧ IsClas (mask w' [bd]) l la ln lc ∧ GLOk attrs pcd l ∧ 1 ≤ l.length ∧ l.length ≤ n + 1 ∧ DeckAt w w' bd ∧ Ext w w'
theorem new_callsB (la : Option Addr) (ln lc : Nat) (w0 w : World) (h : IntsAt w0 la ln) (hx : Ext w0 w) (hl : ln ≤ 1000000000000000) : Calls Tryz.prog 10 #[.slice la ln lc] w (fun e w' => ∃ bd, e = .returned (.pointer (some ⟨bd, 0, none⟩)) ∧ DeckAt w0 w' bd ∧ Ext w w' ∧ w.heap.size ≤ bd) := by
  have HX := Lib.hid hx
  clear hx
  go_enter Tryz.func10, Tryz.ntmps10
  go_wp2_with fail
  go_ret
  exact ⟨w.heap.size, rfl, ⟨la, ln, lc, 0, alloc_new w _, by omega, hl, h, HX.out.trans ((Ext.refl w).alloc _), HX.out.size⟩, (Ext.refl w).alloc _, Nat.le_refl _⟩
set_option maxRecDepth 100000 in
set_option maxHeartbeats 8000000 in
theorem made10_calls (da : Option Addr) (dn dc n : Nat) (hn : n ≤ 50) (w0 : World) (h : IntsAt w0 da dn) (hdl : dn ≤ 1000000000000000) : Calls Tryz.prog 7 #[.slice da dn dc, .int .i64 (n : Nat)] w0 (MadeSQ n w0) := by
  have HI := Lib.hid h
  clear h
  obtain ⟨rb, hrb⟩ : ∃ rb, rb = w0.heap.size := ⟨_, rfl⟩
  have HRBE := Lib.hid hrb
  obtain ⟨wa, hwa⟩ : ∃ wa, wa = w0.alloc (.cells #[.slice none 0 0] 24) := ⟨_, rfl⟩
  have HXA := Lib.hid (show Ext w0 wa by rw [hwa]; exact (Ext.refl _).alloc _)
  have HRA := Lib.hid (show wa.heap[rb]? = some (.cells #[.slice none 0 0] 24 (0, 0)) by rw [hwa, hrb]; exact alloc_new w0 _)
  go_enter Tryz.func7, Tryz.ntmps7
  go_upto_region 1 with fail
  rw [← hwa, ← hrb]
  clear hwa hrb
  go_wp2_with fail
  refine (new_callsB da dn dc w0 wa HI.out HXA.out hdl).mono ?_
  rintro e w1 ⟨bd, rfl, hd1, hx1, hbl⟩
  have HD1 := Lib.hid hd1
  have HX1 := Lib.hid (HXA.out.trans hx1)
  have HR1 := Lib.hid (hx1.blk HRA.out)
  have hra := blk_lt HRA.out
  have HBL := Lib.hid (show rb < bd by omega)
  clear hd1 hx1 HRA HXA hbl hra
  go_wp2_with fail
  refine (next_calls HD1.out 6 (by omega) (by omega)).mono ?_
  rintro e w2 ⟨z, rfl, hz0, hz1, hd2, hc2⟩
  have HD2 := Lib.hid hd2
  have hz2 := hc2.size
  have HR2 := Lib.hid (hc2.blk HR1.out (by have := HBL.out; simp; omega))
  have HX2 := Lib.hid (hc2.ext HX1.out (fun y hy => by simp only [List.mem_singleton] at hy; have := HBL.out; have := HRBE.out; omega))
  have hbw := hd2.lt
  have HBW := Lib.hid hbw
  clear hd2 hc2 HD1 HX1 HR1 hbw hz2
  go_wp2_with fail
  refine (schema_calls z [bd, rb] w2 (fun y hy => by have := HBL.out; have := HBW.out; simp at hy; omega)).mono ?_
  rintro e w3 ⟨attrs, v, rfl, hat, hsch, hx3⟩
  obtain ⟨sa, sn, sc, rfl, hsn⟩ := hsch.slice
  have HSC := Lib.hid hsch
  have HD3 := Lib.hid (HD2.out.ext hx3)
  have HR3 := Lib.hid (hx3.blk HR2.out)
  have HX3 := Lib.hid (HX2.out.trans hx3)
  have h3s := hx3.size
  have HAT := Lib.hid hat
  clear hsch hx3 HD2 HR2 HX2 hsn hat
  go_upto_region 3 with fail
  obtain ⟨sb, hsb⟩ : ∃ sb, sb = w3.heap.size := ⟨_, rfl⟩
  obtain ⟨w4, hw4⟩ : ∃ w4, w4 = w3.alloc (.cells #[.slice sa sn sc] 24) := ⟨_, rfl⟩
  have hx4 : Ext w3 w4 := by rw [hw4]; exact (Ext.refl _).alloc _
  have HSB := Lib.hid (show w4.heap[sb]? = some (.cells #[.slice sa sn sc] 24 (0, 0)) by rw [hw4, hsb]; exact alloc_new w3 _)
  have HBS := Lib.hid (show rb < bd ∧ bd < sb ∧ rb = w0.heap.size ∧ sb < w4.heap.size from ⟨HBL.out, by have := HBW.out; omega, HRBE.out, blk_lt HSB.out⟩)
  have HDK := Lib.hid (HD3.out.ext hx4)
  have HS4 := Lib.hid (show IsSchema (mask w4 [bd, rb]) attrs (.agg #[.slice sa sn sc]) from HSC.out.mono (mask_grow (K := []) (hx4.chg []) (by simp)))
  have HR4 := Lib.hid (hx4.blk HR3.out)
  have HX4 := Lib.hid (HX3.out.trans hx4)
  rw [← hw4, ← hsb]
  clear hw4 hsb hx4 h3s HD3 HR3 HX3 HSC HBL HBW
  have HCL := Lib.hid (show ∀ W, DeckAt w0 W bd → Chg [bd, rb] w4 W → Calls Tryz.prog 20 #[.pointer (some ⟨bd, 0, none⟩), .agg #[.slice sa sn sc], .int .i64 (n : Nat), .string ⟨#[99, 45]⟩] W (GenQ attrs pcd n w0 bd [bd, rb] W) from fun W hd hW =>
    gclauses_calls HAT.out (schemas_ok attrs HAT.out).1 (schemas_ok attrs HAT.out).2.1 (schemas_ok attrs HAT.out).2.2 hd sa sn sc [bd, rb] ((HS4.out.mono (mask_grow hW (fun y hy => Or.inl hy))).mono (mask_less _ (fun y hy => by simp at hy; simp [hy]))) (fun y hy => by have := hW.size; have := HBS.out; simp at hy; omega) n hn pcd (by decide))
  --BEGIN M3
  refine wp_region_grow (m := 9) [6, 7, 8] (GnM w0 bd rb w4) (GnS 6 bd rb) (GrP (md3R attrs bd rb n sa sn sc)) (by kernel_rfl) (by kernel_rfl) ⟨HDK.out.ext ((Ext.refl w4).drew), ((Ext.refl w4).drew).chg _, _, ((Ext.refl w4).drew).blk HR4.out⟩ ?_ ?_ ?_
  · intro i k v W W' hi hk hne hout h hE
    have hi' : i = 0 ∨ i = 1 ∨ i = 2 ∨ i = 3 ∨ i = 4 ∨ i = 5 ∨ i = 6 ∨ i = 7 ∨ i = 8 := by omega
    clear hi hk
    by_cases hk : k = 6
    · subst hk
      have hE := hE.1
      rcases hi' with rfl | rfl | rfl | rfl | rfl | rfl | rfl | rfl | rfl
      · exact h
      · exact h
      · exact h
      · exact h
      · obtain ⟨l, la, ln, lc, e0, h⟩ := h
        exact ⟨l, la, ln, lc, e0, ⟨h.1.mono (mask_grow hE (fun y hy => Or.inl (by simp at hy ⊢; simp [hy]))), h.2⟩⟩
      · exact h
      · exact absurd rfl hne
      · obtain ⟨l, la, ln, lc, e0, h⟩ := h
        exact ⟨l, la, ln, lc, e0, ⟨h.1.mono (mask_grow hE (fun y hy => Or.inl (by simp at hy ⊢; simp [hy]))), h.2⟩⟩
      · exact h
    have hE : Chg [bd] W W' := (hE.2 ‹_›)
    rcases hi' with rfl | rfl | rfl | rfl | rfl | rfl | rfl | rfl | rfl
    · exact h
    · exact h
    · exact h
    · exact h
    · obtain ⟨l, la, ln, lc, e0, h⟩ := h
      exact ⟨l, la, ln, lc, e0, ⟨h.1.mono (mask_step hE (by simp)), h.2⟩⟩
    · exact h
    · exact hE.blk h (by have := HBS.out; simp; omega)
    · obtain ⟨l, la, ln, lc, e0, h⟩ := h
      exact ⟨l, la, ln, lc, e0, ⟨h.1.mono (mask_step hE (by simp)), h.2⟩⟩
    · exact h
  · intro q op hq ho vs W hW hd ρ hρ
    have hq' : q = 0 ∨ q = 1 ∨ q = 2 ∨ q = 3 ∨ q = 4 ∨ q = 5 ∨ q = 6 ∨ q = 7 ∨ q = 8 := by omega
    clear hq
    have o8 : ρ (.tmp 8) = .pointer (some ⟨sb, 0, none⟩) := hρ.out 8 rfl
    have o7 : ρ (.tmp 7) = .pointer (some ⟨bd, 0, none⟩) := hρ.out 7 rfl
    have o1 : ρ (.tmp 1) = .int .i64 ((n : Nat) : Int) := hρ.out 1 rfl
    have i1 := hρ.ins 1 15 (by omega) rfl (Nat.le_of_ble_eq_true rfl)
    have i2 := hρ.ins 2 16 (by omega) rfl (Nat.le_of_ble_eq_true rfl)
    have i3 := hρ.ins 3 17 (by omega) rfl (Nat.le_of_ble_eq_true rfl)
    have o4 : ρ (.tmp 4) = .pointer (some ⟨rb, 0, none⟩) := hρ.out 4 rfl
    have i0 := hρ.ins 0 14 (by omega) rfl (Nat.le_of_ble_eq_true rfl)
    have i4 := hρ.ins 4 18 (by omega) rfl (Nat.le_of_ble_eq_true rfl)
    have i5 := hρ.ins 5 19 (by omega) rfl (Nat.le_of_ble_eq_true rfl)
    have hc := hρ.const
    have hfn := hρ.func
    clear hρ
    have HW := Lib.hid (show DeckAt w0 W bd ∧ Chg [bd, rb] w4 W ∧ ∃ q, W.heap[rb]? = some (.cells #[q] 24 (0, 0)) from hW)
    rcases hq' with rfl | rfl | rfl | rfl | rfl | rfl | rfl | rfl | rfl
    · cases ho
      clear hd
      obtain ⟨g7, gf7⟩ := blk1 (HW.out.2.1.blk HSB.out (by have := HBS.out; simp; omega))
      unfold GivesOp
      go_simp
      exact ⟨⟨Chg.refl _ _, fun _ => Chg.refl _ _⟩, rfl⟩
    · cases ho
      clear hd
      unfold GivesOp
      go_simp
      exact ⟨⟨Chg.refl _ _, fun _ => Chg.refl _ _⟩, rfl⟩
    · cases ho
      clear hd
      obtain ⟨g7, gf7⟩ := blk1 (HW.out.2.1.blk HSB.out (by have := HBS.out; simp; omega))
      unfold GivesOp
      go_simp
      exact ⟨⟨Chg.refl _ _, fun _ => Chg.refl _ _⟩, rfl⟩
    · cases ho
      clear hd
      unfold GivesOp
      go_simp
      exact ⟨⟨Chg.refl _ _, fun _ => Chg.refl _ _⟩, rfl⟩
    · cases ho
      have h1 : vs 1 = .pointer (some ⟨bd, 0, none⟩) := hd ⟨1, .data⟩ (by simp) rfl
      rw [h1] at i1
      have h2 : vs 2 = .agg #[.slice sa sn sc] := hd ⟨2, .data⟩ (by simp) rfl
      rw [h2] at i2
      have h3 : vs 3 = .int .i64 ((n : Nat) : Int) := hd ⟨3, .data⟩ (by simp) rfl
      rw [h3] at i3
      clear hd
      unfold GivesOp
      go_simp
      refine (HCL.out W HW.out.1 HW.out.2.1).mono ?_
      rintro e5 w5 ⟨l, la, ln, lc, rfl, k1, k2, k3, k4, hd5, hc5⟩
      exact ⟨_, rfl, ⟨hc5.weak (by simp), fun _ => hc5⟩, ⟨hd5, HW.out.2.1.then (hc5.weak (by simp)), by obtain ⟨q, hq⟩ := HW.out.2.2; exact ⟨q, hc5.blk hq (by have := HBS.out; simp; omega)⟩⟩, l, la, ln, lc, rfl, k1, k2, k3, k4⟩
    · cases ho
      clear hd
      unfold GivesOp
      go_simp
      exact ⟨⟨Chg.refl _ _, fun _ => Chg.refl _ _⟩, rfl⟩
    · cases ho
      have h0 : vs 0 = .agg #[.slice sa sn sc] := hd ⟨0, .data⟩ (by simp) rfl
      rw [h0] at i0
      clear hd
      obtain ⟨q, hrq⟩ := HW.out.2.2
      have g8 := blk_cell hrq 0
      have g9 := blk_free hrq 0
      unfold GivesOp
      go_simp
      have hst : (W.setCell ⟨rb, 0, none⟩ (.slice sa sn sc)).heap[rb]? = some (.cells #[.slice sa sn sc] 24 (0, 0)) := by rw [heap_setCell_same W rb 0 _ _ (.slice sa sn sc) hrq]; simp
      have hcs : Chg [rb] W (W.setCell ⟨rb, 0, none⟩ (.slice sa sn sc)) := (Chg.refl _ _).setCell (Or.inl (by simp)) _
      exact ⟨⟨hcs.weak (by simp), fun h => absurd rfl h⟩, ⟨HW.out.1.chg hcs (by have := HBS.out; simp; omega) (fun y hy => by simp only [List.mem_singleton] at hy; have := HBS.out; omega), HW.out.2.1.then (hcs.weak (by simp)), _, hst⟩, hst⟩
    · cases ho
      obtain ⟨l, la, ln, lc, h4, hs4⟩ : ∃ (l : List Cla) (la : Option Addr) (ln : Nat) (lc : Nat), vs 4 = .slice la ln lc ∧ (IsClas (mask W [bd, rb]) l la ln lc ∧ GLOk attrs pcd l ∧ 1 ≤ l.length ∧ l.length ≤ n + 1) := hd ⟨4, .data⟩ (by simp) rfl
      have HS4 := Lib.hid hs4
      clear hs4
      rw [h4] at i4
      clear hd
      unfold GivesOp
      go_simp
      exact ⟨⟨Chg.refl _ _, fun _ => Chg.refl _ _⟩, _, _, _, _, rfl, HS4.out⟩
    · cases ho
      have h5 : vs 5 = .pointer (some ⟨bd, 0, none⟩) := hd ⟨5, .data⟩ (by simp) rfl
      rw [h5] at i5
      clear hd
      unfold GivesOp
      go_simp
      exact ⟨⟨Chg.refl _ _, fun _ => Chg.refl _ _⟩, rfl⟩
  intro vs W hW hR
  rw [if_pos (by decide +kernel)]
  have HS6 := Lib.hid (show W.heap[rb]? = some (.cells #[.slice sa sn sc] 24 (0, 0)) from hR 6 (by simp) (by omega))
  obtain ⟨l, la, ln, lc, h7, hs7⟩ : ∃ (l : List Cla) (la : Option Addr) (ln : Nat) (lc : Nat), vs 7 = .slice la ln lc ∧ (IsClas (mask W [bd, rb]) l la ln lc ∧ GLOk attrs pcd l ∧ 1 ≤ l.length ∧ l.length ≤ n + 1) := hR 7 (by simp) (by omega)
  have HS7 := Lib.hid hs7
  clear hs7
  have h8 : vs 8 = .pointer (some ⟨bd, 0, none⟩) := hR 8 (by simp) (by omega)
  simp only [acts, dstAt, List.range, List.range.loop, List.foldl_cons, List.foldl_nil, h7, h8]
  go_simp
  have hW2 : DeckAt w0 W bd ∧ Chg [bd, rb] w4 W ∧ ∃ q, W.heap[rb]? = some (.cells #[q] 24 (0, 0)) := hW
  clear hR hW h7 h8
  --END M3
  have HW2 := Lib.hid hW2
  obtain ⟨r0, rf⟩ := blk1 HS6.out
  clear hW2
  go_wp2_with fail
  refine bodyPost_ret (v := .tuple #[.agg #[.slice sa sn sc], .slice la ln lc, .pointer (some ⟨bd, 0, none⟩)]) (by simp [results, Tryz.results7, go_sem, r0]) rfl ?_
  exact ⟨attrs, sa, sn, sc, l, la, ln, lc, bd, rfl, HAT.out, (HS4.out.mono (mask_grow HW2.out.2.1 (fun y hy => Or.inl hy))).mono (mask_less _ (fun y hy => by simp at hy; simp [hy])), HS7.out.1.mono (mask_less _ (fun y hy => by simp at hy; simp [hy])), HS7.out.2.1, HS7.out.2.2.1, HS7.out.2.2.2, HW2.out.1, by obtain ⟨_, _, _, _, _, _, _, _, hxw, _⟩ := HW2.out.1; exact hxw⟩
end Go.Proofs.YtfjlglefodndjaaGreatDoor

namespace Go.Proofs.YtfjlglefodndjaaGreatDoor
open Go.RowKit Go.Maps

/-! check.reached: the plain invariants. -/
def nmsOf (u : List Cla) : List ByteArray := u.map (·.name)
def ClosedE (l u : List Cla) (x : Ex) : Prop := ∀ s ∈ namesE x, ∀ d, defAt l s = some d → s ∈ nmsOf u
structure RP (l : List Cla) (e : Ex) (u : List Cla) (xs : List Ex) : Prop where
  defs : ∀ c ∈ u, c.kind = 1 ∧ ∃ d, defAt l c.name = some d ∧ c.cond = (l.getD d cla0).cond ∧ Reach l e d
  names : (nmsOf u).Nodup
  top : e ∈ xs ∨ ClosedE l u e
  closed : ∀ c ∈ u, c.cond ∈ xs ∨ ClosedE l u c.cond
  stack : ∀ x ∈ xs, x = e ∨ ∃ c ∈ u, c.cond = x
  slen : xs.length ≤ u.length + 1
structure RPi (l : List Cla) (e : Ex) (u : List Cla) (xs : List Ex) (x : Ex) (ns : List ByteArray) (j : Nat) : Prop where
  defs : ∀ c ∈ u, c.kind = 1 ∧ ∃ d, defAt l c.name = some d ∧ c.cond = (l.getD d cla0).cond ∧ Reach l e d
  names : (nmsOf u).Nodup
  top : e ∈ xs ∨ e = x ∨ ClosedE l u e
  closed : ∀ c ∈ u, c.cond ∈ xs ∨ c.cond = x ∨ ClosedE l u c.cond
  stack : ∀ y ∈ xs, y = e ∨ ∃ c ∈ u, c.cond = y
  cur : x = e ∨ ∃ c ∈ u, c.cond = x
  done : ∀ i (h : i < ns.length), i < j → ∀ d, defAt l ns[i] = some d → ns[i] ∈ nmsOf u
  slen : xs.length ≤ u.length
theorem RP.start (l : List Cla) (e : Ex) : RP l e [] [e] := ⟨by simp, by simp [nmsOf], Or.inl (by simp), by simp, fun x hx => Or.inl (by simpa using hx), by simp⟩
theorem RP.pop {l : List Cla} {e : Ex} {u : List Cla} {xs : List Ex} {x : Ex} (h : RP l e u (xs ++ [x])) (ns : List ByteArray) : RPi l e u xs x ns 0 := by
  refine ⟨h.defs, h.names, ?_, fun c hc => ?_, fun y hy => h.stack y (by simp [hy]), h.stack x (by simp), fun i _ h => by omega, by have := h.slen; simpa using this⟩
  · rcases h.top with h1 | h1
    · rcases List.mem_append.1 h1 with h2 | h2
      · exact Or.inl h2
      · exact Or.inr (Or.inl (by simpa using h2))
    · exact Or.inr (Or.inr h1)
  · rcases h.closed c hc with h1 | h1
    · rcases List.mem_append.1 h1 with h2 | h2
      · exact Or.inl h2
      · exact Or.inr (Or.inl (by simpa using h2))
    · exact Or.inr (Or.inr h1)
theorem RPi.end {l : List Cla} {e : Ex} {u : List Cla} {xs : List Ex} {x : Ex} {ns : List ByteArray} {j : Nat} (h : RPi l e u xs x ns j) (hj : ns.length ≤ j) (hns : ∀ s, s ∈ ns ↔ s ∈ namesE x) : RP l e u xs := by
  have hx : ClosedE l u x := fun s hs d hd => by
    obtain ⟨i, hi, rfl⟩ := List.mem_iff_getElem.1 ((hns s).2 hs)
    exact h.done i hi (by omega) d hd
  refine ⟨h.defs, h.names, ?_, fun c hc => ?_, h.stack, Nat.le_succ_of_le h.slen⟩
  · rcases h.top with h1 | rfl | h1
    · exact Or.inl h1
    · exact Or.inr hx
    · exact Or.inr h1
  · rcases h.closed c hc with h1 | h1 | h1
    · exact Or.inl h1
    · exact Or.inr (h1 ▸ hx)
    · exact Or.inr h1
theorem RPi.skip {l : List Cla} {e : Ex} {u : List Cla} {xs : List Ex} {x : Ex} {ns : List ByteArray} {j : Nat} (h : RPi l e u xs x ns j) (hj : j < ns.length) (hs : defAt l ns[j] = none ∨ ns[j] ∈ nmsOf u) : RPi l e u xs x ns (j + 1) :=
  ⟨h.defs, h.names, h.top, h.closed, h.stack, h.cur, fun i hi hij d hd => by
    by_cases e' : i = j
    · subst e'
      rcases hs with h1 | h1
      · rw [h1] at hd; cases hd
      · exact h1
    · exact h.done i hi (by omega) d hd, h.slen⟩
theorem nmsOf_snoc (u : List Cla) (c : Cla) : nmsOf (u ++ [c]) = nmsOf u ++ [c.name] := by simp [nmsOf]
theorem RPi.step {l : List Cla} {e : Ex} {u : List Cla} {xs : List Ex} {x : Ex} {ns : List ByteArray} {j : Nat} (h : RPi l e u xs x ns j) (hj : j < ns.length) (hns : ∀ s, s ∈ ns ↔ s ∈ namesE x) {d : Nat} (hd : defAt l ns[j] = some d) (hn : ns[j] ∉ nmsOf u) {c : Cla} (hk : c.kind = 1) (hnm : c.name = ns[j]) (hc : c.cond = (l.getD d cla0).cond) :
    RPi l e (u ++ [c]) (xs ++ [c.cond]) x ns (j + 1) := by
  have up : ∀ y, ClosedE l u y → ClosedE l (u ++ [c]) y := fun y hy s hs d hd => by rw [nmsOf_snoc]; exact List.mem_append_left _ (hy s hs d hd)
  refine ⟨fun c' hc' => ?_, ?_, ?_, fun c' hc' => ?_, fun y hy => ?_, ?_, fun i hi hij d' hd' => ?_, by have := h.slen; simp; omega⟩
  · rcases List.mem_append.1 hc' with h1 | h1
    · exact h.defs c' h1
    · obtain rfl : c' = c := by simpa using h1
      refine ⟨hk, d, by rw [hnm]; exact hd, hc, ?_⟩
      have hm := (hns _).1 (List.getElem_mem hj)
      rcases h.cur with rfl | ⟨c2, h2, rfl⟩
      · exact Reach.base hm hd
      · obtain ⟨_, d2, g1, g2, g3⟩ := h.defs c2 h2
        exact Reach.step g3 (g2 ▸ hm) hd
  · rw [nmsOf_snoc, List.nodup_append]
    refine ⟨h.names, by simp, fun a ha b hb e => ?_⟩
    simp only [List.mem_singleton] at hb
    subst e hb
    exact hn (hnm ▸ ha)
  · rcases h.top with h1 | h1 | h1
    · exact Or.inl (List.mem_append_left _ h1)
    · exact Or.inr (Or.inl h1)
    · exact Or.inr (Or.inr (up _ h1))
  · rcases List.mem_append.1 hc' with h1 | h1
    · rcases h.closed c' h1 with h2 | h2 | h2
      · exact Or.inl (List.mem_append_left _ h2)
      · exact Or.inr (Or.inl h2)
      · exact Or.inr (Or.inr (up _ h2))
    · obtain rfl : c' = c := by simpa using h1
      exact Or.inl (by simp)
  · rcases List.mem_append.1 hy with h1 | h1
    · rcases h.stack y h1 with h2 | ⟨c2, h2, h3⟩
      · exact Or.inl h2
      · exact Or.inr ⟨c2, List.mem_append_left _ h2, h3⟩
    · exact Or.inr ⟨c, by simp, (List.mem_singleton.1 h1).symm⟩
  · rcases h.cur with h1 | ⟨c2, h2, h3⟩
    · exact Or.inl h1
    · exact Or.inr ⟨c2, List.mem_append_left _ h2, h3⟩
  · rw [nmsOf_snoc]
    by_cases e' : i = j
    · subst e'; simp [hnm]
    · exact List.mem_append_left _ (h.done i hi (by omega) d' hd')
theorem RP.used {l : List Cla} {e : Ex} {u : List Cla} (h : RP l e u []) : Used l e u :=
  ⟨h.defs, h.names, fun s hs d hd => by rcases h.top with h1 | h1; · simp at h1
                                        · exact h1 s hs d hd,
   fun c hc s hs d hd => by rcases h.closed c hc with h1 | h1; · simp at h1
                            · exact h1 s hs d hd⟩
theorem defs_len {l : List Cla} {e : Ex} {u : List Cla} (h1 : ∀ c ∈ u, c.kind = 1 ∧ ∃ d, defAt l c.name = some d ∧ c.cond = (l.getD d cla0).cond ∧ Reach l e d) (h2 : (nmsOf u).Nodup) : u.length ≤ l.length := by
  have key := nodup_le (u.map fun c => (defAt l c.name).getD 0) (List.range l.length) ?_ ?_
  · simpa using key
  · rw [List.Nodup, List.pairwise_map]
    rw [List.Nodup, nmsOf, List.pairwise_map] at h2
    refine h2.imp_of_mem fun {a b} ha hb hne he => ?_
    obtain ⟨_, d, g2, _⟩ := h1 a ha
    obtain ⟨_, d', g3, _⟩ := h1 b hb
    rw [g2, g3] at he
    simp only [Option.getD_some] at he
    subst he
    exact hne ((defAt_name g2).1.symm.trans (defAt_name g3).1)
  · intro x hx
    obtain ⟨c, hc, rfl⟩ := List.mem_map.1 hx
    obtain ⟨_, d, g2, _⟩ := h1 c hc
    rw [g2]
    exact List.mem_range.2 (defAt_lt g2)

/-! What it keeps in memory. -/
structure RcS (w : World) (bs : Nat) (lv xv : Value) (u : List Cla) (vs : List ClV) (xs : List Ex) (evs : List ExV) (wr : World) : Prop where
  ext : Ext w wr
  cla : ClasR w u vs
  own : wr.ownsRow w.heap.size 38 10 lv u.length (vs.flatMap ClV.cells)
  ex : ExsR w xs evs
  xown : wr.ownsRow w.heap.size 29 6 xv xs.length (evs.flatMap ExV.cells)
  seen : MapAt wr 9 bs u.length (strF (memF fun s => s ∈ nmsOf u))
  bsn : w.heap.size ≤ bs
  d1 : ∀ g, lv.ownBlock = some g → g ≠ bs
  d2 : ∀ g, xv.ownBlock = some g → g ≠ bs
  d3 : ∀ g, lv.ownBlock = some g → xv.ownBlock ≠ some g
theorem RcS.extd {w : World} {bs : Nat} {lv xv : Value} {u : List Cla} {vs : List ClV} {xs : List Ex} {evs : List ExV} {wr wr' : World} (h : RcS w bs lv xv u vs xs evs wr) (hx : Ext wr wr') : RcS w bs lv xv u vs xs evs wr' :=
  { h with ext := h.ext.trans hx, own := owns_chg h.own (hx.chg []) (by simp), xown := owns_chg h.xown (hx.chg []) (by simp), seen := h.seen.ext hx }
theorem flat_take {xs : List ExV} {x : ExV} : ((xs ++ [x]).flatMap ExV.cells).take (xs.length * 6) = xs.flatMap ExV.cells := by
  rw [List.flatMap_append, List.take_left']
  clear x
  induction xs with
  | nil => rfl
  | cons y r ih => simp only [List.flatMap_cons, List.length_append, exV_len, ih, List.length_cons]; omega
theorem owns_drop {w : World} {base : Nat} {g n cap : Nat} {xs : List ExV} {x : ExV} (hn : n = xs.length) (h : w.ownsRow base 29 6 (.slice (some ⟨g, 0, none⟩) (n + 1) cap) (n + 1) ((xs ++ [x]).flatMap ExV.cells)) :
    w.ownsRow base 29 6 (.slice (some ⟨g, 0, none⟩) n cap) n (xs.flatMap ExV.cells) := by
  obtain ⟨h1, h2⟩ := h
  have hl : (xs.flatMap ExV.cells).length = n * 6 := by
    subst hn
    clear h1 h2 x
    induction xs with
    | nil => rfl
    | cons y r ih => simp only [List.flatMap_cons, List.length_append, exV_len, ih, List.length_cons]; omega
  refine ⟨hl, Or.inr ?_⟩
  rcases h2 with ⟨h3, _⟩ | ⟨g', cap', cur, h3, h4, h5, h6, h7, h8, h9⟩
  · simp at h3
  · simp only [Value.slice.injEq, Option.some.injEq, Addr.mk.injEq, and_true, true_and] at h3
    obtain ⟨rfl, rfl⟩ := h3
    refine ⟨g, cap, cur, rfl, h4, h5, by omega, h7, h8, ?_⟩
    have e1 : cur.toList.take (n * 6) = (cur.toList.take ((n + 1) * 6)).take (n * 6) := by rw [List.take_take]; congr 1; omega
    rw [e1, h9, hn, flat_take]
/-- The last expression's cells. -/
theorem owns_last {w : World} {base : Nat} {n : Nat} {v : Value} {xs : List ExV} {x : ExV} (hn : n = xs.length) (h : w.ownsRow base 29 6 v (n + 1) ((xs ++ [x]).flatMap ExV.cells)) :
    ∃ g cap, v = .slice (some ⟨g, 0, none⟩) (n + 1) cap ∧ w.cell? ⟨g, n * 6, none⟩ = some (.int .i64 x.op) ∧ w.cell? ⟨g, n * 6 + 1, none⟩ = some (.string x.name) ∧ w.cell? ⟨g, n * 6 + 2, none⟩ = some (.slice x.aw x.nw x.cw) ∧ w.cell? ⟨g, n * 6 + 3, none⟩ = some (.int .i64 x.lo) ∧ w.cell? ⟨g, n * 6 + 4, none⟩ = some (.int .i64 x.hi) ∧ w.cell? ⟨g, n * 6 + 5, none⟩ = some (.slice x.aa x.na x.ca) := by
  subst hn
  have e0 : xs.length + 1 = (xs ++ [x]).length := by simp
  rw [e0] at h
  obtain ⟨a, c, rfl, hr⟩ := IsRows.of_owns exV_len h
  obtain ⟨b, off, rfl, hc⟩ := hr.2.2.2 xs.length (by simp)
  have ha : off = 0 := by
    obtain ⟨_, h2⟩ := h
    rcases h2 with ⟨h3, _⟩ | ⟨g', cap', cur, h3, _⟩
    · simp at h3
    · simp only [Value.slice.injEq, Option.some.injEq, Addr.mk.injEq, and_true] at h3
      exact h3.1.2
  subst ha
  have key : ∀ j (hj : j < 6), w.cell? ⟨b, xs.length * 6 + j, none⟩ = some (x.cells[j]'(by rw [exV_len]; exact hj)) := fun j hj => by
    have := hc j (by rw [exV_len]; exact hj)
    simpa using this
  refine ⟨b, c, by simp, ?_, ?_, ?_, ?_, ?_, ?_⟩
  · exact key 0 (by omega)
  · exact key 1 (by omega)
  · exact key 2 (by omega)
  · exact key 3 (by omega)
  · exact key 4 (by omega)
  · exact key 5 (by omega)
theorem owns_bounds {w : World} {base : Nat} {e : TypeId} {size g n cap : Nat} {xs : List Value} (h : w.ownsRow base e size (.slice (some ⟨g, 0, none⟩) n cap) n xs) : base ≤ g ∧ n ≤ cap ∧ g < w.heap.size ∧ cap ≤ maxLen := by
  obtain ⟨_, h2⟩ := h
  rcases h2 with ⟨h3, _⟩ | ⟨g', cap', cur, h3, h4, h5, h6, h7, _⟩
  · simp at h3
  · simp only [Value.slice.injEq, Option.some.injEq, Addr.mk.injEq, and_true, true_and] at h3
    obtain ⟨rfl, rfl⟩ := h3
    exact ⟨h4, h6, blk_lt h5, h7⟩
theorem RcS.step {w W w3 w8 w9 : World} {bs : Nat} {lv xv lv' xv' : Value} {u : List Cla} {vs : List ClV} {xs : List Ex} {evs : List ExV} (h : RcS w bs lv xv u vs xs evs W) {c : Cla} {cv : ClV} (hcv : IsCla w c cv) {x : Ex} {ev : ExV} (hev : IsEx w x ev.val) {F : Lit → Option Value}
    (hm : MapAt w3 9 bs (u.length + 1) F) (hF : ∀ y, F y = strF (memF fun s => s ∈ nmsOf (u ++ [c])) y) (hc3 : Chg [bs] W w3)
    (ho8 : w8.ownsRow w.heap.size 38 10 lv' (u.length + 1) (vs.flatMap ClV.cells ++ cv.cells)) (hc8 : Chg (rowOf lv) w3 w8) (hw8 : ∀ k, lv'.ownBlock = some k → lv.ownBlock = some k ∨ w3.heap.size ≤ k)
    (ho9 : w9.ownsRow w.heap.size 29 6 xv' (xs.length + 1) (evs.flatMap ExV.cells ++ ev.cells)) (hc9 : Chg (rowOf xv) w8 w9) (hw9 : ∀ k, xv'.ownBlock = some k → xv.ownBlock = some k ∨ w8.heap.size ≤ k) :
    RcS w bs lv' xv' (u ++ [c]) (vs ++ [cv]) (xs ++ [x]) (evs ++ [ev]) w9 := by
  have s3 := hc3.size
  have s8 := hc8.size
  have hbl := hm.lt
  have xlt : ∀ q, xv.ownBlock = some q → q < W.heap.size := fun q hq => (h.xown.lt q hq).2
  have llt : ∀ q, lv.ownBlock = some q → q < W.heap.size := fun q hq => (h.own.lt q hq).2
  exact {
    ext := hc9.ext (hc8.ext (hc3.ext h.ext (by simpa using h.bsn)) fun q hq => (h.own.lt q (mem_rowOf.1 hq)).1) fun q hq => (h.xown.lt q (mem_rowOf.1 hq)).1
    cla := h.cla.snoc hcv
    own := by
      have := owns_chg ho8 hc9 fun q hq hm => by
        have h2 := mem_rowOf.1 hm
        rcases hw8 q hq with h1 | h1
        · exact h.d3 q h1 h2
        · have := xlt q h2; omega
      simpa using this
    ex := h.ex.snoc hev
    xown := by simpa using ho9
    seen := by
      have := ((hm.chg hc8 fun hm => h.d1 bs (mem_rowOf.1 hm) rfl).chg hc9 fun hm => h.d2 bs (mem_rowOf.1 hm) rfl).congr hF
      simpa using this
    bsn := h.bsn
    d1 := fun q hq e => by
      rcases hw8 q hq with h1 | h1
      · exact h.d1 q h1 e
      · omega
    d2 := fun q hq e => by
      rcases hw9 q hq with h1 | h1
      · exact h.d2 q h1 e
      · omega
    d3 := fun q hq hq2 => by
      have h8 := (ho8.lt q hq).2
      rcases hw9 q hq2 with h2 | h2
      · rcases hw8 q hq with h1 | h1
        · exact h.d3 q h1 h2
        · have := xlt q h2; omega
      · omega }
theorem owns_new (w : World) (arr : Array Value) (e : TypeId) {size n base : Nat} (hs : arr.size = n * size) (hn : n ≤ maxLen) (hb : base ≤ w.heap.size) : (w.alloc (.cells arr e)).ownsRow base e size (.slice (some ⟨w.heap.size, 0, none⟩) n n) n arr.toList :=
  ⟨by simpa using hs, Or.inr ⟨w.heap.size, n, arr, rfl, hb, alloc_new w _, Nat.le_refl _, hn, hs, by rw [List.take_of_length_le (by simp; omega)]⟩⟩
end Go.Proofs.YtfjlglefodndjaaGreatDoor

namespace Go.Proofs.YtfjlglefodndjaaGreatDoor
open Go.RowKit Go.Maps

/-! check.reached: the walk. -/
theorem zeroUnit (w : World) : (zeroValue 86).run Tryz.prog w = .ok (.agg #[]) w := by kernel_rfl
def ReachQ (l : List Cla) (e : Ex) (w : World) (r : Ending) (w' : World) : Prop := ∃ u a n c, r = .returned (.slice a n c) ∧ IsClas w' u a n c ∧ Used l e u ∧ Ext w w'
/-- The outer loop. -/
def RL1 (w : World) (l : List Cla) (e : Ex) (bs m : Nat) (lv xv : Value) (wr : World) : Prop := ∃ u vs xs evs, m = 2 * (l.length - u.length) + xs.length ∧ RcS w bs lv xv u vs xs evs wr ∧ RP l e u xs
/-- The inner loop. -/
def RL2 (w : World) (l : List Cla) (e x : Ex) (ns : List ByteArray) (na : Option Addr) (nc bs m : Nat) (lv xv i : Value) (wr : World) : Prop := ∃ u vs xs evs j, i = .int .i64 (j : Nat) ∧ j ≤ ns.length ∧ 2 * (l.length - u.length) + xs.length ≤ m ∧ RcS w bs lv xv u vs xs evs wr ∧ RPi l e u xs x ns j ∧ IsStrs wr ns na ns.length nc ∧ (∀ b off, na = some ⟨b, off, none⟩ → b ≠ bs ∧ some b ≠ lv.ownBlock ∧ some b ≠ xv.ownBlock)
theorem exs_last {w : World} {xs : List Ex} {evs : List ExV} (h : ExsR w xs evs) (hne : xs ≠ []) : ∃ xs' x evs' v, xs = xs' ++ [x] ∧ evs = evs' ++ [v] ∧ ExsR w xs' evs' ∧ IsEx w x v.val := by
  obtain ⟨xs', x, rfl⟩ : ∃ r i, xs = r ++ [i] := ⟨xs.dropLast, xs.getLast hne, (List.dropLast_concat_getLast hne).symm⟩
  have hne2 : evs ≠ [] := by intro e0; have := h.1; rw [e0] at this; simp at this
  obtain ⟨evs', v, rfl⟩ : ∃ r i, evs = r ++ [i] := ⟨evs.dropLast, evs.getLast hne2, (List.dropLast_concat_getLast hne2).symm⟩
  have hl : xs'.length = evs'.length := by have := h.1; simpa using this
  refine ⟨xs', x, evs', v, rfl, rfl, ⟨hl, fun i h1 h2 => ?_⟩, ?_⟩
  · have := h.2 i (by simp; omega) (by simp; omega)
    rwa [List.getElem_append_left h1, List.getElem_append_left h2] at this
  · have := h.2 xs'.length (by simp) (by simp; omega)
    rw [List.getElem_append_right (Nat.le_refl _)] at this
    simpa [hl] using this
theorem to_mask_nil (w : World) : Sub w (mask w []) := fun p v h => by rw [mask_cell, if_neg (by simp)]; exact h
theorem cond_of {l u : List Cla} {e : Ex} (h1 : ∀ c ∈ u, c.kind = 1 ∧ ∃ d, defAt l c.name = some d ∧ c.cond = (l.getD d cla0).cond ∧ Reach l e d) (hsz : ∀ x ∈ l, x.cond.size ≤ 100000 ∧ x.cond.fits) {c : Cla} (hc : c ∈ u) : c.cond.size ≤ 100000 ∧ c.cond.fits := by
  obtain ⟨_, d, hd, h2, _⟩ := h1 c hc
  rw [h2, getD_cla (defAt_lt hd)]
  exact hsz _ (List.getElem_mem _)
end Go.Proofs.YtfjlglefodndjaaGreatDoor

namespace Go.Proofs.YtfjlglefodndjaaGreatDoor
open Go.RowKit Go.Maps

/-! check.sizes: the sizes of definitions in an order. -/
theorem sizesF_le (l : List Cla) : (o : List Nat) → ∀ s n, sizesF l o s = some n → n ≤ 2001 := by
  intro o
  generalize hm : o.length = m
  induction m generalizing o with
  | zero => intro s n h; rw [List.eq_nil_of_length_eq_zero hm] at h; simp [sizesF] at h
  | succ m ih =>
    intro s n h
    have hne : o ≠ [] := by intro e; rw [e] at hm; cases hm
    obtain ⟨r, i, rfl⟩ : ∃ r i, o = r ++ [i] := ⟨o.dropLast, o.getLast hne, (List.dropLast_concat_getLast hne).symm⟩
    have hr := ih r (by simpa using hm)
    rw [sizesF_snoc] at h
    by_cases e : s = (l.getD i cla0).name
    · rw [if_pos e] at h
      cases h
      exact szE_le hr _
    · rw [if_neg e] at h
      exact hr s n h
theorem natF_step {l : List Cla} {o : List Nat} {i : Nat} (x : Lit) : setF (strF (natF (sizesF l o))) (.string (l.getD i cla0).name.data.toList) (some (.int .i64 (szE (sizesF l o) (l.getD i cla0).cond))) x = strF (natF (sizesF l (o ++ [i]))) x := by
  rw [setF_str]
  cases x <;> try rfl
  rename_i bs
  simp only [strF]
  by_cases e : (⟨bs.toArray⟩ : ByteArray) = (l.getD i cla0).name
  · rw [e, upS_same, natF, sizesF_snoc, if_pos rfl]
    rfl
  · rw [upS_other _ _ e, natF, natF, sizesF_snoc, if_neg e]
theorem wpOp_last {P : Program} {ops : Array Oper} {Q : Exit → Act → World → Prop} {a : Act} {w : World} {i : Nat} {o : Oper} (ho : ops[i]? = some o) (h : wpList P ops Q [o] a w) : wpOp P ops Q i (fun a w => Q .normal a w) a w := by
  unfold wpOp
  rw [ho]
  exact h
def sizV (bf cb coff n c i : Nat) (v : ClV) (z : Nat) : Nat → Value
  | 0 => .map (some bf) | 6 => .map (some bf)
  | 1 => .slice (some ⟨cb, coff, none⟩) n c | 7 => .slice (some ⟨cb, coff, none⟩) n c
  | 2 => .int .i64 i | 8 => .int .i64 i
  | 3 => .pointer (some ⟨cb, coff + i * 10, none⟩) | 9 => .pointer (some ⟨cb, coff + i * 10, none⟩)
  | 4 => .pointer (some ⟨cb, coff + i * 10 + 1, none⟩) | 10 => .pointer (some ⟨cb, coff + i * 10 + 2, none⟩)
  | 5 => .string v.name
  | 11 => .agg #[.int .i64 v.x.op, .string v.x.name, .slice v.x.aw v.x.nw v.x.cw, .int .i64 v.x.lo, .int .i64 v.x.hi, .slice v.x.aa v.x.na v.x.ca]
  | _ => .int .i64 z
def SizG (wr W : World) : Prop := Ext wr W
def SizE (_ : Nat) (W W' : World) : Prop := Ext W W'
def SizR (f : Nat → Value) (j : Nat) (u : Value) (_ : World) : Prop := u = f j
def SizesQ (l : List Cla) (o : List Nat) (w : World) (e : Ending) (w' : World) : Prop := ∃ b, e = .returned (.map (some b)) ∧ MapAt w' 9 b o.length (strF (natF (sizesF l o))) ∧ Ext w w'
set_option maxRecDepth 100000 in
set_option maxHeartbeats 8000000 in
theorem sizes_calls (l : List Cla) (a : Option Addr) (n c : Nat) (o : List Nat) (oa : Option Addr) (oc : Nat) (w : World) (hl : IsClas w l a n c) (_hn : n ≤ 1000000) (ho : IsInts w (ints o) oa o.length oc) (hol : o.length ≤ 1000000) (hlt : ∀ i ∈ o, i < l.length)
    (hsz : ∀ x ∈ l, x.name.size ≤ 1000000000000000 ∧ x.cond.size ≤ 1000000000000000 ∧ x.cond.fits) :
    Calls Tryz.prog 30 #[.slice a n c, .slice oa o.length oc] w (SizesQ l o w) := by
  have HL := Lib.hid hl
  have HN := Lib.hid hl.len
  have HSZ := Lib.hid hsz
  have HO := Lib.hid ho
  have HLT := Lib.hid hlt
  clear hl hsz ho hlt
  have hmm := @run_makeMap Tryz.prog
  have HM0 := Lib.hid (MapAt.made w 9)
  have HX0 := Lib.hid ((Ext.refl w).alloc (.map #[] 0))
  obtain ⟨bf, hbf⟩ : ∃ bf : Nat, bf = w.heap.size := ⟨_, rfl⟩
  rw [← hbf] at HM0
  have HBF := Lib.hid hbf
  go_enter Tryz.func30, Tryz.ntmps30
  go_wp2_with fail
  rw [← hbf]
  clear hbf hmm
  go_loopw [11] (fun i wr => ∃ k : Nat, k ≤ o.length ∧ i = .int .i64 k ∧ MapAt wr 9 bf k (strF (natF (sizesF l (o.take k)))) ∧ Ext w wr) (fun i _ => o.length - (intOf i).toNat)
  case atStart =>
    refine ⟨0, by omega, rfl, HM0.out.congr fun x => ?_, HX0.out⟩
    cases x <;> simp [strF, natF, sizesF]
  case round =>
    obtain ⟨k, hk, rfl, hmap, hx⟩ := hrel
    have HMP := Lib.hid hmap
    have HX := Lib.hid hx
    have hbw := hmap.lt
    clear hmap hx HM0 HX0
    by_cases hlt : k < o.length
    · have t1 : decide ((k : Int) < (o.length : Int)) = true := decide_eq_true (by omega)
      obtain ⟨ob, ooff, rfl, oc1⟩ := (HO.out.mono HX.out.sub).2.2.2 k (by simpa [ints] using hlt)
      obtain ⟨i, hi⟩ : ∃ i, i = o[k] := ⟨_, rfl⟩
      have e1 : (ints o)[k]'(by simpa [ints] using hlt) = (i : Int) := by simp [ints, hi]
      rw [e1] at oc1
      have hil : i < l.length := HLT.out i (by rw [hi]; exact List.getElem_mem hlt)
      have hin : i < n := by have := HN.out; omega
      obtain ⟨cb, coff, v, rfl, hcla, hrow⟩ := (HL.out.ext HX.out).at hil
      obtain ⟨c0, c1, c2, c3, c4, c5, c6, c7, c8, c9⟩ := hrow.ten
      have hszi := HSZ.out _ (List.getElem_mem hil)
      have hns : v.name.size ≤ 1000000000000000 := by rw [hcla.2.1]; exact hszi.1
      have HEX := Lib.hid (show IsEx wr l[i].cond (.agg #[.int .i64 v.x.op, .string v.x.name, .slice v.x.aw v.x.nw v.x.cw, .int .i64 v.x.lo, .int .i64 v.x.hi, .slice v.x.aa v.x.na v.x.ca]) from hcla.2.2.1)
      have HST := Lib.hid (@natF_step l (o.take k) i)
      have e2 : o.take k ++ [i] = o.take (k + 1) := by rw [hi, List.take_succ_eq_append_getElem hlt]
      rw [getD_cla hil, ← hcla.2.1, e2] at HST
      have HSI := Lib.hid hszi
      have ti0 : (0 : Int) ≤ (i : Int) := by omega
      have ti1 : (i : Int) < (n : Int) := by omega
      clear hcla hrow e1 e2 hi hszi
      go_upto_region 5 with fail
      have HCE := Lib.hid (fun (W : World) (hW : Ext wr W) => cexp_calls (sizesF l (o.take k)) (sizesF_le l _) bf k 1000000000000000 l[i].cond _ W HSI.out.2.1 (by omega) HSI.out.2.2 (HMP.out.ext hW) (HEX.out.ext hW))
      obtain ⟨Z, hZ⟩ : ∃ Z, Z = szE (sizesF l (o.take k)) l[i].cond := ⟨_, rfl⟩
      rw [← hZ] at HCE HST
      clear hZ
      refine wp_region_grow (m := 13) [0, 5, 12] (SizG wr) SizE (SizR (sizV bf cb coff n c i v Z)) (by kernel_rfl) (by kernel_rfl) ((Ext.refl wr).drew) ?_ ?_ ?_
      · exact fun _ _ _ _ _ _ _ _ _ h _ => h
      · intro q op hq ho vs W hW hd ρ hρ
        have hq' : q = 0 ∨ q = 1 ∨ q = 2 ∨ q = 3 ∨ q = 4 ∨ q = 5 ∨ q = 6 ∨ q = 7 ∨ q = 8 ∨ q = 9 ∨ q = 10 ∨ q = 11 ∨ q = 12 := by omega
        clear hq
        have o5 : ρ (.tmp 5) = .map (some bf) := hρ.out 5 rfl
        have o0 : ρ (.tmp 0) = .slice (some ⟨cb, coff, none⟩) n c := hρ.out 0 rfl
        have o7 : ρ (.tmp 7) = .int .i64 i := hρ.out 7 rfl
        have i1 := hρ.ins 1 16 (by omega) rfl (Nat.le_of_ble_eq_true rfl)
        have i2 := hρ.ins 2 17 (by omega) rfl (Nat.le_of_ble_eq_true rfl)
        have i3 := hρ.ins 3 18 (by omega) rfl (Nat.le_of_ble_eq_true rfl)
        have i4 := hρ.ins 4 19 (by omega) rfl (Nat.le_of_ble_eq_true rfl)
        have i7 := hρ.ins 7 22 (by omega) rfl (Nat.le_of_ble_eq_true rfl)
        have i8 := hρ.ins 8 23 (by omega) rfl (Nat.le_of_ble_eq_true rfl)
        have i9 := hρ.ins 9 24 (by omega) rfl (Nat.le_of_ble_eq_true rfl)
        have i10 := hρ.ins 10 25 (by omega) rfl (Nat.le_of_ble_eq_true rfl)
        have i6 := hρ.ins 6 21 (by omega) rfl (Nat.le_of_ble_eq_true rfl)
        have i11 := hρ.ins 11 26 (by omega) rfl (Nat.le_of_ble_eq_true rfl)
        have hc := hρ.const
        have hfn := hρ.func
        clear hρ
        have hW : Ext wr W := hW
        have HW := Lib.hid hW
        clear hW
        rcases hq' with rfl | rfl | rfl | rfl | rfl | rfl | rfl | rfl | rfl | rfl | rfl | rfl | rfl
        · cases ho; unfold GivesOp; go_simp; exact ⟨Ext.refl W, rfl⟩
        · cases ho; unfold GivesOp; go_simp; exact ⟨Ext.refl W, rfl⟩
        · cases ho; unfold GivesOp; go_simp; exact ⟨Ext.refl W, rfl⟩
        · cases ho
          have h1 : vs 1 = _ := hd ⟨1, .data⟩ (by simp) rfl
          have h2 : vs 2 = _ := hd ⟨2, .data⟩ (by simp) rfl
          rw [h1] at i1; rw [h2] at i2
          simp only [sizV] at i1 i2
          unfold GivesOp; go_simp; exact ⟨Ext.refl W, rfl⟩
        · cases ho
          have h3 : vs 3 = _ := hd ⟨3, .data⟩ (by simp) rfl
          rw [h3] at i3
          simp only [sizV] at i3
          unfold GivesOp; go_simp; exact ⟨Ext.refl W, rfl⟩
        · cases ho
          have h4 : vs 4 = _ := hd ⟨4, .data⟩ (by simp) rfl
          rw [h4] at i4
          simp only [sizV] at i4
          have g1 := HW.out.cell c1
          unfold GivesOp; go_simp; exact ⟨Ext.refl W, rfl⟩
        · cases ho; unfold GivesOp; go_simp; exact ⟨Ext.refl W, rfl⟩
        · cases ho; unfold GivesOp; go_simp; exact ⟨Ext.refl W, rfl⟩
        · cases ho; unfold GivesOp; go_simp; exact ⟨Ext.refl W, rfl⟩
        · cases ho
          have h1 : vs 7 = _ := hd ⟨7, .data⟩ (by simp) rfl
          have h2 : vs 8 = _ := hd ⟨8, .data⟩ (by simp) rfl
          rw [h1] at i7; rw [h2] at i8
          simp only [sizV] at i7 i8
          unfold GivesOp; go_simp; exact ⟨Ext.refl W, rfl⟩
        · cases ho
          have h3 : vs 9 = _ := hd ⟨9, .data⟩ (by simp) rfl
          rw [h3] at i9
          simp only [sizV] at i9
          unfold GivesOp; go_simp; exact ⟨Ext.refl W, rfl⟩
        · cases ho
          have h4 : vs 10 = _ := hd ⟨10, .data⟩ (by simp) rfl
          rw [h4] at i10
          simp only [sizV] at i10
          have g2 := HW.out.cell c2
          have g3 := HW.out.cell c3
          have g4 := HW.out.cell c4
          have g5 := HW.out.cell c5
          have g6 := HW.out.cell c6
          have g7 := HW.out.cell c7
          unfold GivesOp; go_simp; exact ⟨Ext.refl W, rfl⟩
        · cases ho
          have h6 : vs 6 = _ := hd ⟨6, .data⟩ (by simp) rfl
          have h11 : vs 11 = _ := hd ⟨11, .data⟩ (by simp) rfl
          rw [h6] at i6; rw [h11] at i11
          simp only [sizV] at i6 i11
          unfold GivesOp
          go_simp
          refine (HCE.out W HW.out).mono ?_
          rintro r w3 ⟨rfl, hx3⟩
          exact ⟨_, rfl, hx3, HW.out.trans hx3, rfl⟩ 
      · intro vs W hW hR
        rw [if_neg (by decide +kernel)]
        have h0 : vs 0 = _ := hR 0 (by simp) (by omega)
        have h5 : vs 5 = _ := hR 5 (by simp) (by omega)
        have h12 : vs 12 = _ := hR 12 (by simp) (by omega)
        simp only [sizV] at h0 h5 h12
        simp only [acts, dstAt, List.range, List.range.loop, List.foldl_cons, List.foldl_nil, h0, h5, h12]
        have hmx := HMP.out.ext hW
        refine wpOp_last rfl ?_
        change wpList _ _ _ [⟨none, .mapUpdate _ (.tmp 15) (.tmp 20) (.tmp 27), _, _, _, none⟩] _ _
        go_simp
        refine wpList_map_put _ rfl _ _ _ 65 rfl 9 3 keyedStr uMapSI bf k _ rfl hmx ?c3 _ _ _ rfl rfl (keyStr hns) trivial ?_
        case c3 => unfold maxLen; omega
        intro w1 hm1 hc1
        have HM1 := Lib.hid (hm1.congr HST.out)
        have HX1 := Lib.hid (hc1.ext (HX.out.trans hW) (by rw [← HBF.out]; simp))
        clear hm1 hc1
        go_wp2_with fail
        go_roundw
        case rel => exact ⟨k + 1, by omega, by go_num, HM1.out, HX1.out⟩
        case measure => simp [intOf]; omega
    · have t1 : decide ((k : Int) < (o.length : Int)) = false := decide_eq_false (by omega)
      have HGE := Lib.hid (show MapAt wr 9 bf o.length (strF (natF (sizesF l o))) by have := HMP.out; rw [List.take_of_length_le (by omega)] at this; exact this.more hk)
      go_wp2_with fail
      go_ret
      exact ⟨bf, rfl, HGE.out, HX.out⟩
end Go.Proofs.YtfjlglefodndjaaGreatDoor

namespace Go.Proofs.YtfjlglefodndjaaGreatDoor
open Go.RowKit Go.Maps

/-! check.Expanded. -/
--BEGIN DEF E1
def expd1R (l : List Cla) (e : Ex) (aw : Option Addr) (nw cw : Nat) (aa : Option Addr) (na ca : Nat) (a : Option Addr) (n c : Nat) : Nat → Value → World → Prop
  | 0, u, _ => u = .slice a n c
  | 1, u, W => ∃ bd, u = .map (some bd) ∧ DefsAt W l bd n
  | 2, u, _ => u = .agg #[.int .i64 e.op, .string e.name, .slice aw nw cw, .int .i64 e.lo, .int .i64 e.hi, .slice aa na ca]
  | 3, u, W => ∃ us ua un uc, u = .slice ua un uc ∧ (IsClas W us ua un uc ∧ Used l e us)
  | _, u, W => ∃ us ua un uc, u = .slice ua un uc ∧ (IsClas W us ua un uc ∧ Used l e us)
--END DEF E1
--BEGIN DEF E5
def expd5R (_l : List Cla) (e : Ex) (aw : Option Addr) (nw cw : Nat) (aa : Option Addr) (na ca : Nat) (_a : Option Addr) (_n _c : Nat) (us : List Cla) (ua : Option Addr) (un uc : Nat) (oa : Option Addr) (oc : Nat) (o : List Nat) (R : Nat) : Nat → Value → World → Prop
  | 0, u, _ => u = .slice ua un uc
  | 1, u, _ => u = .slice oa o.length oc
  | 2, u, W => ∃ bd, u = .map (some bd) ∧ MapAt W 9 bd o.length (strF (natF (sizesF us o)))
  | 3, u, _ => u = .agg #[.int .i64 e.op, .string e.name, .slice aw nw cw, .int .i64 e.lo, .int .i64 e.hi, .slice aa na ca]
  | 4, u, _ => u = .int .i64 R
  | _, u, _ => u = .int .i64 R
--END DEF E5
end Go.Proofs.YtfjlglefodndjaaGreatDoor

namespace Go.Proofs.YtfjlglefodndjaaGreatDoor
open Go.RowKit

/-- What is seen after p of the order. -/
def seenL (o : List Nat) (n p : Nat) : List Bool := (List.range n).map fun j => decide (j ∈ o.take p)
theorem seenL_zero (o : List Nat) (n : Nat) : seenL o n 0 = List.replicate n false := by
  unfold seenL
  simp [List.map_const']
theorem seenL_len (o : List Nat) (n p : Nat) : (seenL o n p).length = n := by simp [seenL]
theorem seenL_at {o : List Nat} {n p j : Nat} (hj : j < n) : (seenL o n p)[j]'(by rw [seenL_len]; exact hj) = decide (j ∈ o.take p) := by simp [seenL]
theorem seenL_succ {o : List Nat} {n p : Nat} (hp : p < o.length) : (seenL o n p).set o[p] true = seenL o n (p + 1) := by
  apply List.ext_getElem
  · simp [seenL]
  · intro j h1 h2
    simp only [List.getElem_set]
    have hj : j < n := by simpa [seenL] using h2
    have e1 : (seenL o n (p + 1))[j] = decide (j ∈ o.take (p + 1)) := seenL_at hj
    have e2 : (seenL o n p)[j]'(by rw [seenL_len]; exact hj) = decide (j ∈ o.take p) := seenL_at hj
    rw [e1, List.take_succ_eq_append_getElem hp]
    by_cases e : o[p] = j
    · rw [if_pos e]
      symm
      rw [decide_eq_true_eq, ← e]
      exact List.mem_append.2 (Or.inr (by simp))
    · rw [if_neg e, e2]
      congr 1
      simp only [List.mem_append, List.mem_singleton]
      exact propext ⟨Or.inl, fun h => h.resolve_right fun h => e h.symm⟩
theorem cond_sizes {e : Ex} (h : CondOk e) : e.size ≤ 4 ∧ e.fits := by
  rcases h with rfl | ⟨s, ⟨b, rfl⟩, rfl⟩ | ⟨ns, h1, h2, rfl⟩
  · exact ⟨by unfold exTrue; rw [size_plain]; omega, fits_plain (by show 0 ≤ _; omega)⟩
  · exact ⟨by unfold exNm; rw [size_plain]; omega, fits_plain (by rw [size1]; omega)⟩
  · have hs : sizes (ns.map exNm) = ns.length := by
      clear h1 h2
      induction ns with
      | nil => simp [sizes]
      | cons x r ih => simp only [List.map_cons, sizes, ih]; rw [exNm, size_plain]; simp; omega
    refine ⟨by simp [Ex.size, hs]; omega, ?_⟩
    unfold Ex.fits
    refine ⟨by show 0 ≤ _; omega, by simp, ?_⟩
    clear h2 hs
    induction ns with
    | nil => simp only [List.map_nil]; unfold fitsAll; trivial
    | cons x r ih =>
      simp only [List.map_cons]
      unfold fitsAll
      obtain ⟨b, rfl⟩ := h1 x (by simp)
      exact ⟨fits_plain (by rw [size1]; omega), ih fun s hs => h1 s (by simp [hs])⟩
theorem defs_sizes {l : List Cla} (h : ∀ x ∈ l, DfnOk x) : ∀ x ∈ l.map Cla.cl, x.cond.size ≤ 100000 ∧ x.cond.fits ∧ x.name.size ≤ 1000000000000000 := by
  intro x hx
  obtain ⟨c, hc, rfl⟩ := List.mem_map.1 hx
  obtain ⟨_, ⟨b, hb⟩, h3, _⟩ := h c hc
  obtain ⟨s1, s2⟩ := cond_sizes h3
  refine ⟨by simp only [Cla.cl]; omega, s2, ?_⟩
  simp only [Cla.cl]
  rw [hb, size1]; omega
def B1 (w2 : World) (bs n : Nat) (o : List Nat) (i : Value) (wr : World) : Prop := ∃ p : Nat, p ≤ o.length ∧ i = .int .i64 p ∧ SeenAt bs (seenL o n p) wr ∧ Ext w2 wr
def B2 (w5 : World) (m : Nat) (i : Value) (wr : World) : Prop := ∃ k : Nat, k ≤ m ∧ i = .int .i64 k ∧ Ext w5 wr
def B3 (w5 : World) (l : List Cla) (x : ByteArray) (n : Nat) (i : Value) (wr : World) : Prop := ∃ j : Nat, j ≤ n ∧ i = .int .i64 j ∧ (∀ q (h : q < l.length), q < j → ¬ (l[q].kind = 1 ∧ l[q].name = x)) ∧ Ext w5 wr
theorem first_is {l : List Cla} {dl : List Dfn} (hdl : dl = (l.map Cla.cl).map Cl.dfn) {j : Nat} (hj : j < l.length) {x : ByteArray} (h1 : l[j].kind = 1 ∧ l[j].name = x) (h2 : ∀ q (h : q < l.length), q < j → ¬ (l[q].kind = 1 ∧ l[q].name = x)) : firstAt dl x = some j := by
  unfold firstAt
  rw [List.findIdx?_eq_some_iff_getElem]
  subst hdl
  refine ⟨by simpa using hj, ?_, fun q hq => ?_⟩
  · simp [Cla.cl, Cl.dfn, h1.1, h1.2]
  · have := h2 q (by omega) hq
    simp only [List.getElem_map, Cla.cl, Cl.dfn, Bool.not_eq_true, Bool.and_eq_false_iff, beq_eq_false_iff_ne, ne_eq, decide_eq_false_iff_not]
    by_cases e : l[q].kind = 1
    · exact Or.inr fun h => this ⟨e, h⟩
    · exact Or.inl e
theorem isDef_cla {l : List Cla} {dl : List Dfn} (hdl : dl = (l.map Cla.cl).map Cl.dfn) {j : Nat} (hj : j < l.length) : isDef dl j = (l[j].kind == 1) := by
  subst hdl
  unfold isDef
  simp [hj, Cla.cl, Cl.dfn]
theorem uses_cla {l : List Cla} {dl : List Dfn} (hdl : dl = (l.map Cla.cl).map Cl.dfn) {j : Nat} (hj : j < l.length) : usesAt dl j = refNames (namesE l[j].cond) := by
  subst hdl
  unfold usesAt
  simp [hj, Cla.cl, Cl.dfn]
end Go.Proofs.YtfjlglefodndjaaGreatDoor
