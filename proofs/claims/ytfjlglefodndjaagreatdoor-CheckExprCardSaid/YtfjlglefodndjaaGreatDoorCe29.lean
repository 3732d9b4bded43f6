/-
  Texts of the claim, joined: Cxpr.
-/
import Derived.Test.YtfjlglefodndjaaGreatDoorCe19
import Derived.Test.YtfjlglefodndjaaGreatDoorCe20
import Derived.Test.YtfjlglefodndjaaGreatDoorCe28
namespace Go.Proofs.YtfjlglefodndjaaGreatDoor
open Go.RowKit

/-! The law CheckExpr: the walk. -/
def GnT (w9 : World) (k : Nat) (W W' : World) : Prop := (k ≠ 3 → Ext W W') ∧ (k = 3 → ∃ b, DeckAt w9 W b ∧ DeckAt w9 W' b ∧ Chg [b] W W')
theorem gnT {w9 : World} {k : Nat} {W W' : World} (h : Ext W W') (hk : k ≠ 3) : GnT w9 k W W' := ⟨fun _ => h, fun e => absurd e hk⟩
theorem sub_fresh {w W : World} {b : Nat} (h : Ext w W) (hb : w.heap.size ≤ b) : Sub w (mask W [b]) := fun p v hp => by
  have := block_lt hp
  rw [mask_cell, if_neg (by simp; omega)]
  exact h.cell hp
theorem deck_low {w0 w : World} {bd : Nat} (h : DeckAt w0 w bd) : w0.heap.size ≤ bd := by obtain ⟨_, _, _, _, _, _, _, _, _, h⟩ := h; exact h
theorem sub_fresh2 {w W : World} {b : Nat} {Z : List Nat} (h : Ext w W) (hb : w.heap.size ≤ b) (hz : ∀ y ∈ Z, w.heap.size ≤ y) : Sub w (mask W (b :: Z)) := fun p v hp => by
  have hlt := block_lt hp
  rw [mask_cell, if_neg (fun hm => by
    rcases List.mem_cons.1 hm with h | h
    · omega
    · have := hz _ h; omega)]
  exact h.cell hp
def zeroExO : Obj := .cells #[.int .i64 0, .string ⟨#[]⟩, .slice none 0 0, .int .i64 0, .int .i64 0, .slice none 0 0] 29 (0, 0)
def GnW (w9 : World) (k3 : Nat) (L : List Nat) (vs : Nat → Value) (W : World) : Prop := Ext w9 W ∧
  (4 ∈ L → ∃ y, vs 4 = .pointer (some ⟨y, 0, none⟩) ∧ W.heap[y]? = some zeroExO ∧ w9.heap.size ≤ y) ∧
  (3 ∈ L → ∃ (ey : Ex) (vy : ExV), vs 3 = vy.val ∧ TwOk k3 ey ∧ IsEx W ey vy.val) ∧
  (3 ∈ L → 4 ∈ L → ∃ (ey : Ex) (vy : ExV) (y : Nat), vs 3 = vy.val ∧ vs 4 = .pointer (some ⟨y, 0, none⟩) ∧ TwOk k3 ey ∧ IsEx (mask W [y]) ey vy.val ∧ W.heap[y]? = some zeroExO ∧ w9.heap.size ≤ y)
section
variable {w9 W W' : World} {k3 : Nat} {L : List Nat} {vs : Nat → Value}
theorem mem_snoc_ne {i j : Nat} (h : j ∈ L ++ [i]) (hj : i ≠ j) : j ∈ L := by
  rcases List.mem_append.1 h with h | h
  · exact h
  · simp at h; exact absurd h.symm hj
theorem gnw_step {i : Nat} {v : Value} (h3 : i ≠ 3) (h4 : i ≠ 4) (h : GnW w9 k3 L vs W) (hx : Ext W W') : GnW w9 k3 (L ++ [i]) (upd vs i v) W' := by
  have e3 : upd vs i v 3 = vs 3 := by unfold upd; rw [if_neg (Ne.symm h3)]
  have e4 : upd vs i v 4 = vs 4 := by unfold upd; rw [if_neg (Ne.symm h4)]
  refine ⟨h.1.trans hx, fun hm => ?_, fun hm => ?_, fun hm hm2 => ?_⟩
  · rw [e4]
    obtain ⟨y, q1, q2, q3⟩ := h.2.1 (mem_snoc_ne hm h4)
    exact ⟨y, q1, hx.blk q2, q3⟩
  · rw [e3]
    obtain ⟨ey, vy, q1, q2, q3⟩ := h.2.2.1 (mem_snoc_ne hm h3)
    exact ⟨ey, vy, q1, q2, q3.ext hx⟩
  · rw [e3, e4]
    obtain ⟨ey, vy, y, q1, q2, q3, q4, q5, q6⟩ := h.2.2.2 (mem_snoc_ne hm h3) (mem_snoc_ne hm2 h4)
    exact ⟨ey, vy, y, q1, q2, q3, q4.mono (mask_ext _ hx), hx.blk q5, q6⟩
theorem gnw_pick (h : GnW w9 k3 L vs W) : ∃ Z : List Nat, (∀ y ∈ Z, y < W.heap.size) ∧ ((4 ∈ L → ∃ y, Z = [y] ∧ vs 4 = .pointer (some ⟨y, 0, none⟩) ∧ W.heap[y]? = some zeroExO ∧ w9.heap.size ≤ y) ∧ (4 ∉ L → Z = [])) := by
  by_cases h4 : 4 ∈ L
  · obtain ⟨y, q1, q2, q3⟩ := h.2.1 h4
    exact ⟨[y], by simpa using blk_lt q2, fun _ => ⟨y, rfl, q1, q2, q3⟩, fun h' => absurd h4 h'⟩
  · exact ⟨[], by simp, fun h' => absurd h' h4, fun _ => rfl⟩
theorem gnw_3 {ey : Ex} {vy : ExV} {Z : List Nat} {bq : Nat} (h : GnW w9 k3 L vs W) (hd : DeckAt w9 W bq) (hc : Chg [bq] W W') (hok : TwOk k3 ey) (hi : IsEx (mask W' (bq :: Z)) ey vy.val) (hz : 4 ∈ L → ∃ y, Z = [y] ∧ vs 4 = .pointer (some ⟨y, 0, none⟩) ∧ W.heap[y]? = some zeroExO ∧ w9.heap.size ≤ y) : GnW w9 k3 (L ++ [3]) (upd vs 3 vy.val) W' := by
  have e3 : upd vs 3 vy.val 3 = vy.val := by simp [upd]
  have e4 : upd vs 3 vy.val 4 = vs 4 := by simp [upd]
  have gb : ∀ g, W.heap[g]? = some zeroExO → W'.heap[g]? = some zeroExO := fun g q => hc.blk q (by
    intro e; simp at e; subst e; obtain ⟨la, ln, lc, k, hb, _⟩ := hd; rw [q] at hb; cases hb)
  refine ⟨hc.ext h.1 (by have := deck_low hd; simpa using this), fun hm => ?_, fun _ => ⟨ey, vy, e3, hok, hi.mono (mask_sub _ _)⟩, fun _ hm => ?_⟩
  · rw [e4]
    obtain ⟨y, _, q1, q2, q3⟩ := hz (by simpa using hm)
    exact ⟨y, q1, gb y q2, q3⟩
  · rw [e3, e4]
    obtain ⟨y, rfl, q1, q2, q3⟩ := hz (by simpa using hm)
    exact ⟨ey, vy, y, rfl, q1, hok, hi.mono (mask_less _ (fun z hz => by simp at hz ⊢; exact Or.inr hz)), gb y q2, q3⟩
theorem gnw_4 (h : GnW w9 k3 L vs W) : GnW w9 k3 (L ++ [4]) (upd vs 4 (.pointer (some ⟨W.heap.size, 0, none⟩))) (W.alloc zeroExO) := by
  have e3 : upd vs 4 (.pointer (some ⟨W.heap.size, 0, none⟩)) 3 = vs 3 := by simp [upd]
  have e4 : upd vs 4 (.pointer (some ⟨W.heap.size, 0, none⟩)) 4 = .pointer (some ⟨W.heap.size, 0, none⟩) := by simp [upd]
  refine ⟨h.1.alloc _, fun _ => ⟨W.heap.size, e4, alloc_new W _, h.1.size⟩, fun hm => ?_, fun hm _ => ?_⟩
  · rw [e3]
    obtain ⟨ey, vy, q1, q2, q3⟩ := h.2.2.1 (by simpa using hm)
    exact ⟨ey, vy, q1, q2, q3.ext ((Ext.refl W).alloc _)⟩
  · rw [e3, e4]
    obtain ⟨ey, vy, q1, q2, q3⟩ := h.2.2.1 (by simpa using hm)
    exact ⟨ey, vy, W.heap.size, q1, rfl, q2, q3.mono (sub_fresh ((Ext.refl W).alloc _) (Nat.le_refl _)), alloc_new W _, h.1.size⟩
end
--BEGIN DEF Y10
def cxpr10R (w9 : World) (xv : ExV) (oa : Option Addr) (on oc : Nat) : Nat → Value → World → Prop
  | 0, u, _ => u = .agg #[.int .i64 xv.op, .string xv.name, .slice xv.aw xv.nw xv.cw, .int .i64 xv.lo, .int .i64 xv.hi, .slice xv.aa xv.na xv.ca]
  | 1, u, _ => u = .slice oa on oc
  | 2, u, W => ∃ (bq : Nat), u = .pointer (some ⟨bq, 0, none⟩) ∧ DeckAt w9 W bq
  | 3, u, _ => u = u ∧ True
  | _, u, _ => u = u ∧ True
--END DEF Y10
--BEGIN DEF Y11
def cxpr11R (ia : Option Addr) (inn ic : Nat) (la : Option Addr) (ln lc : Nat) (e : Ex) (aw : Option Addr) (nw cw : Nat) (aa : Option Addr) (na ca : Nat) (sa : Option Addr) (sn sc : Nat) (ma : Option Addr) (mn mc : Nat) (xv vy : ExV) (E1 E2 E3 E4 : Int) : Nat → Value → World → Prop
  | 0, u, _ => u = .agg #[.slice ia inn ic]
  | 1, u, _ => u = .slice la ln lc
  | 2, u, _ => u = .agg #[.int .i64 e.op, .string e.name, .slice aw nw cw, .int .i64 e.lo, .int .i64 e.hi, .slice aa na ca]
  | 3, u, _ => u = .int .i64 E1
  | 4, u, _ => u = .agg #[.slice ia inn ic]
  | 5, u, _ => u = .slice la ln lc
  | 6, u, _ => u = .agg #[.int .i64 e.op, .string e.name, .slice aw nw cw, .int .i64 e.lo, .int .i64 e.hi, .slice aa na ca]
  | 7, u, _ => u = .int .i64 E1
  | 8, u, _ => u = .bool true
  | 9, u, _ => u = .bool true
  | 10, u, _ => u = .agg #[.slice sa sn sc]
  | 11, u, _ => u = .slice ma mn mc
  | 12, u, _ => u = .agg #[.int .i64 e.op, .string e.name, .slice aw nw cw, .int .i64 e.lo, .int .i64 e.hi, .slice aa na ca]
  | 13, u, _ => u = .int .i64 E2
  | 14, u, _ => u = .agg #[.slice sa sn sc]
  | 15, u, _ => u = .slice ma mn mc
  | 16, u, _ => u = .agg #[.int .i64 e.op, .string e.name, .slice aw nw cw, .int .i64 e.lo, .int .i64 e.hi, .slice aa na ca]
  | 17, u, _ => u = .int .i64 E2
  | 18, u, _ => u = .bool true
  | 19, u, _ => u = .bool true
  | 20, u, _ => u = .bool true
  | 21, u, _ => u = .agg #[.slice sa sn sc]
  | 22, u, _ => u = .slice ma mn mc
  | 23, u, _ => u = .agg #[.int .i64 xv.op, .string xv.name, .slice xv.aw xv.nw xv.cw, .int .i64 xv.lo, .int .i64 xv.hi, .slice xv.aa xv.na xv.ca]
  | 24, u, _ => u = .int .i64 E3
  | 25, u, _ => u = .agg #[.slice sa sn sc]
  | 26, u, _ => u = .slice ma mn mc
  | 27, u, _ => u = .agg #[.int .i64 xv.op, .string xv.name, .slice xv.aw xv.nw xv.cw, .int .i64 xv.lo, .int .i64 xv.hi, .slice xv.aa xv.na xv.ca]
  | 28, u, _ => u = .int .i64 E3
  | 29, u, _ => u = .bool true
  | 30, u, _ => u = .bool true
  | 31, u, _ => u = .bool true
  | 32, u, _ => u = .agg #[.slice sa sn sc]
  | 33, u, _ => u = .slice ma mn mc
  | 34, u, _ => u = .agg #[.int .i64 vy.op, .string vy.name, .slice vy.aw vy.nw vy.cw, .int .i64 vy.lo, .int .i64 vy.hi, .slice vy.aa vy.na vy.ca]
  | 35, u, _ => u = .int .i64 E4
  | 36, u, _ => u = .agg #[.slice sa sn sc]
  | 37, u, _ => u = .slice ma mn mc
  | 38, u, _ => u = .agg #[.int .i64 vy.op, .string vy.name, .slice vy.aw vy.nw vy.cw, .int .i64 vy.lo, .int .i64 vy.hi, .slice vy.aa vy.na vy.ca]
  | 39, u, _ => u = .int .i64 E4
  | 40, u, _ => u = .bool true
  | 41, u, _ => u = .bool true
  | 42, u, _ => u = .bool true
  | 43, u, _ => u = .bool true
  | 44, u, _ => u = .bool true
  | _, u, _ => u = .bool true
--END DEF Y11
set_option maxRecDepth 100000 in
set_option maxHeartbeats 16000000 in
theorem cxpr_calls (s : List Attr) (sv : Value) (l : List Cla) (la : Option Addr) (ln lc : Nat) (e : Ex) (ev : Value) (da : Option Addr) (dn dc : Nat) (oa : Option Addr) (on oc : Nat) (w : World) (hs : IsSchema w s sv) (hsf : ∀ x ∈ s, x.fits) (hsl : s.length ≤ 1000000000000000) (hl : IsClas w l la ln lc) (hlf : ∀ x ∈ l, x.fit) (hln : ln ≤ 1000000000000000)
    (he : IsEx w e ev) (hef : e.fits) (hew : e.few) (h1 : IntsAt w da dn) (h2 : IntsAt w oa on) (hd1 : dn ≤ 1000000000000000) (hd2 : on ≤ 1000000000000000) (ho : HasOps w) :
    Calls Tryz.prog 3 #[sv, .slice la ln lc, ev, .slice da dn dc, .slice oa on oc] w (GivesE (.bool true) w) := by
  obtain ⟨ia, inn, ic, rfl, hsn⟩ := hs.slice
  have HS := Lib.hid hs
  have HSF := Lib.hid hsf
  have HSN := Lib.hid hsn
  have HL := Lib.hid hl
  have HLF := Lib.hid hlf
  have HE := Lib.hid he
  have HEF := Lib.hid hef
  have HEW := Lib.hid hew
  have HI1 := Lib.hid h1
  have HI2 := Lib.hid h2
  have HO := Lib.hid ho
  have HRS := Lib.hid (fun (W : World) (hW : Ext w W) => rsize_calls e.size e ev W (Nat.le_refl _) (he.ext hW))
  obtain ⟨aw, nw, cw, aa, na, ca, rfl, -⟩ := he.parts
  have hin : inn ≤ 1000000000000000 := by omega
  clear hs hsf hl hlf he hef hew h1 h2 ho hsn
  unfold exV at *
  obtain ⟨wa, hwa⟩ : ∃ wa, wa = (w.alloc (.cells #[.slice ia inn ic] 24)).alloc (.cells #[.int .i64 e.op, .string e.name, .slice aw nw cw, .int .i64 e.lo, .int .i64 e.hi, .slice aa na ca] 29) := ⟨_, rfl⟩
  have hxa : Ext w wa := by rw [hwa]; exact ((Ext.refl _).alloc _).alloc _
  have hb0 : wa.heap[w.heap.size]? = some (.cells #[.slice ia inn ic] 24 (0, 0)) := by rw [hwa]; exact blk_alloc (alloc_new w _)
  have hb1 : wa.heap[w.heap.size + 1]? = some (.cells #[.int .i64 e.op, .string e.name, .slice aw nw cw, .int .i64 e.lo, .int .i64 e.hi, .slice aa na ca] 29 (0, 0)) := by rw [hwa]; exact alloc_atR (by simp)
  have HXA := Lib.hid hxa
  have HB0 := Lib.hid hb0
  have HB1 := Lib.hid hb1
  obtain ⟨d0, df⟩ := blk1 hb0
  obtain ⟨f0, f1, f2, f3, f4, f5, ff⟩ := blk6 hb1
  have hlt1 := blk_lt hb1
  have HRS1 := Lib.hid (HRS.out wa hxa)
  obtain ⟨Z, hZ⟩ : ∃ Z, Z = refSize e := ⟨_, rfl⟩
  rw [← hZ] at HRS1
  have HZ := Lib.hid hZ
  have hzb : Z ≤ 301 := by rw [hZ]; unfold refSize; omega
  clear hxa hb0 hb1 HRS hZ
  go_enter Tryz.func3, Tryz.ntmps3
  go_upto_region 1 with fail
  rw [← hwa]
  clear hwa
  go_cut [31] (fun s31 wx => ∃ c : Bool, s31 = .bool c ∧ (c = false → ln ≤ 60 ∧ Z ≤ 300) ∧ Ext wa wx)
  case first =>
    by_cases q1 : 20 < inn
    · have t1 : decide ((20 : Int) < (inn : Int)) = true := decide_eq_true (by omega)
      go_wp2_with fail
      go_meet
      case rel => exact ⟨true, rfl, fun h => by simp at h, Ext.refl _⟩
    have t1 : decide ((20 : Int) < (inn : Int)) = false := decide_eq_false (by omega)
    by_cases q2 : 60 < ln
    · have t2 : decide ((60 : Int) < (ln : Int)) = true := decide_eq_true (by omega)
      go_wp2_with fail
      go_meet
      case rel => exact ⟨true, rfl, fun h => by simp at h, Ext.refl _⟩
    have t2 : decide ((60 : Int) < (ln : Int)) = false := decide_eq_false (by omega)
    go_wp2_with fail
    refine HRS1.out.mono ?_
    rintro r w2 ⟨rfl, hx2⟩
    have HX2 := Lib.hid hx2
    clear hx2 d0 df f0 f1 f2 f3 f4 f5 ff
    by_cases q3 : 300 < Z
    · have t3 : decide ((300 : Int) < (Z : Int)) = true := decide_eq_true (by omega)
      go_wp2_with fail
      go_meet
      case rel => exact ⟨true, rfl, fun h => by simp at h, HX2.out⟩
    have t3 : decide ((300 : Int) < (Z : Int)) = false := decide_eq_false (by omega)
    go_wp2_with fail
    go_meet
    case rel => exact ⟨false, rfl, fun _ => ⟨by omega, by omega⟩, HX2.out⟩
  case rest =>
  obtain ⟨c, rfl, hcn, hxc⟩ := hcut
  have HXC := Lib.hid (HXA.out.trans hxc)
  have HB0 := Lib.hid (hxc.blk HB0.out)
  have HB1 := Lib.hid (hxc.blk HB1.out)
  have HCN := Lib.hid hcn
  clear hcn hxc d0 df f0 f1 f2 f3 f4 f5 ff HXA hlt1 HRS1
  cases c with
  | true =>
    go_wp2_with fail
    refine (awake10_calls wc).mono ?_
    rintro r w3 ⟨rfl, hx3⟩
    have HX3 := Lib.hid (HXC.out.trans hx3)
    clear hx3
    go_wp2_with fail
    go_ret
    exact ⟨rfl, HX3.out⟩
  | false =>
  obtain ⟨hln60, hz3⟩ := HCN.out rfl
  have HES := Lib.hid (show e.size ≤ 300 by have := HZ.out; unfold refSize at this; omega)
  clear HCN
  go_wp2_with fail
  refine (made10_calls da dn dc 6 (by omega) wc (fun i hi => by obtain ⟨b, off, z, e, hc⟩ := HI1.out i hi; exact ⟨b, off, z, e, HXC.out.cell hc⟩) hd1).mono ?_
  rintro r w3 ⟨attrs, sa, sn, sc, m, ma, mn, mc, bd, rfl, hat, hsch, hm, hgl, hm1, hm8, hdk, hx3⟩
  have HAT := Lib.hid hat
  have HSC := Lib.hid hsch
  have HM := Lib.hid hm
  have HGL := Lib.hid hgl
  have HDK := Lib.hid hdk
  have HX3 := Lib.hid hx3
  have HMN := Lib.hid hm.len
  have hmn : mn ≤ 9 := by have := hm.len; omega
  clear hat hsch hm hgl hdk hx3 hm1 hm8 HI1
  go_upto_region 4 with fail
  obtain ⟨bs, hbs⟩ : ∃ bs, bs = w3.heap.size := ⟨_, rfl⟩
  obtain ⟨w4, hw4⟩ : ∃ w4, w4 = w3.alloc (.cells #[.slice sa sn sc] 24) := ⟨_, rfl⟩
  have hx4 : Ext w3 w4 := by rw [hw4]; exact (Ext.refl _).alloc _
  have HX4 := Lib.hid hx4
  have HBS := Lib.hid (show w4.heap[bs]? = some (.cells #[.slice sa sn sc] 24 (0, 0)) by rw [hw4, hbs]; exact alloc_new w3 _)
  rw [← hw4, ← hbs]
  have hbdl := HDK.out.lt
  have HBB := Lib.hid (show bd < bs by omega)
  clear hw4 hbs hx4 hbdl
  go_wp2_with fail
  go_loopw [14, 15] (CxL w4 m mn) (fun _ i _ => mn - (intOf i).toNat)
  case atStart => exact ⟨0, rfl, by omega, World.ownsRow_nil _ _ _ _, Ext.refl _⟩
  case round =>
    obtain ⟨k, rfl, hk, hown, hx⟩ := hrel
    obtain ⟨na', nc', hv⟩ := owns_formG hown
    subst hv
    have HOW := Lib.hid hown
    have HX := Lib.hid hx
    have hxs := hx.size
    clear hown hx
    by_cases hkn : k < mn
    · have t1 : decide ((k : Int) < (mn : Int)) = true := decide_eq_true (by omega)
      have hkm : k < m.length := by have := HMN.out; omega
      obtain ⟨b, off, v, rfl, hcla, hrow⟩ := (HM.out.mono ((mask_sub _ _).trans (HX4.out.trans HX.out).sub)).at hkm
      obtain ⟨c0, c1, -, -, -, -, -, -, -, -⟩ := hrow.ten
      have HNM := Lib.hid hcla.2.1
      have ti0 : (0 : Int) ≤ (k : Int) := by omega
      have ti1 : (k : Int) < (mn : Int) := by omega
      clear hcla hrow
      go_wp2_with (at_builtin; refine wpList_append_at elemStr rfl _ _ rfl w4.heap.size _ k _ rfl HOW.out _ 1 1 rfl ?f0 rfl ?f1 ?f2 ?f3 ?f4 ?_)
      case f0 => simp
      case f1 => simp [Value.oneCell']
      case f2 => unfold maxLen; omega
      case f3 => omega
      case f4 => omega
      intro v8 w8 hown8 hc8 hw8
      have HO8 := Lib.hid (show w8.ownsRow w4.heap.size 9 1 v8 (k + 1) (((m.take (k + 1)).map (·.name)).flatMap strCells) by
        rw [List.take_succ_eq_append_getElem hkm, List.map_append, List.flatMap_append]
        simp only [List.map_cons, List.map_nil, List.flatMap_cons, List.flatMap_nil, List.append_nil, strCells, ← HNM.out]
        simpa [List.map_take] using hown8)
      have HX8 := Lib.hid (hc8.ext HX.out (fun y hy => (HOW.out.lt y (mem_rowOf.1 hy)).1))
      clear hown8 hc8 hw8
      go_wp2_with fail
      go_roundw
      case rel => exact ⟨k + 1, by go_num, by omega, HO8.out, HX8.out⟩
      case measure => simp [intOf]; omega
    · have t1 : decide ((k : Int) < (mn : Int)) = false := decide_eq_false (by omega)
      obtain rfl : k = mn := by omega
      obtain ⟨ns, hns⟩ : ∃ ns, ns = m.map (·.name) := ⟨_, rfl⟩
      have hnl : ns.length = k := by rw [hns, List.length_map]; exact HMN.out.symm
      have HNS := Lib.hid (show ∀ x ∈ ns, x.size ≤ 1000 by
        intro x hx
        rw [hns] at hx
        obtain ⟨c', hc', rfl⟩ := List.mem_map.1 hx
        have := (HGL.out.1 c' hc').2
        have h3 : pcd.size = 2 := rfl
        omega)
      have HSTR := Lib.hid (show IsStrs (mask wr [bd]) ns na' k nc' by
        have h := HOW.out
        rw [List.take_of_length_le (by have := HMN.out; omega), ← hns, ← hnl] at h
        obtain ⟨a', c', hv, h1, _⟩ := strs_of_owns h [bd] (fun x hx => by
          simp only [List.mem_singleton] at hx
          have := blk_lt HBS.out; have := HBB.out; omega)
        rw [hnl] at hv h1
        simp only [Value.slice.injEq] at hv
        obtain ⟨rfl, _, rfl⟩ := hv
        exact h1)
      have HXW := Lib.hid (HX4.out.trans HX.out)
      have HDW := Lib.hid (HDK.out.ext HXW.out)
      have HBS := Lib.hid (HX.out.blk HBS.out)
      obtain ⟨b0, bf⟩ := blk1 HBS.out
      have HDX := Lib.hid (show Calls Tryz.prog 8 #[.pointer (some ⟨bd, 0, none⟩), .agg #[.slice sa sn sc], .slice na' k nc', .int .i64 4] wr (MadeQ (MadeOk 4) wc bd [] wr) from
        (dexpr_calls attrs ns (schemas_ok attrs HAT.out).1 (schemas_ok attrs HAT.out).2.1 (schemas_ok attrs HAT.out).2.2 (by omega) 3 (by omega) HDW.out sa sn sc na' k nc' [] (HSC.out.mono (mask_step (HXW.out.chg [bd]) (by simp))) HSTR.out (by simp)).mono fun e w' h => h.mono fun x hx => made_okay HAT.out HNS.out 4 x hx)
      clear hns hnl HOW
      go_wp2_with fail
      refine HDX.out.mono ?_
      rintro r w6 ⟨x, xv, rfl, hmo, hix, hd6, hc6⟩
      have HMO := Lib.hid hmo
      have HIX := Lib.hid hix
      have HX6 := Lib.hid (show Ext wc w6 by obtain ⟨_, _, _, _, _, _, _, _, hxw, _⟩ := hd6; exact hxw)
      have HM6 := Lib.hid ((HM.out.mono (mask_step (HXW.out.chg [bd]) (by simp))).mono (mask_step hc6 (by simp)))
      have HSC6 := Lib.hid ((HSC.out.mono (mask_step (HXW.out.chg [bd]) (by simp))).mono (mask_step hc6 (by simp)))
      have HBS6 := Lib.hid (hc6.blk HBS.out (by have := HBB.out; simp; omega))
      clear hmo hix hd6 hc6 b0 bf HDX
      unfold ExV.val exV
      go_upto_region 10 with fail
      obtain ⟨bx, hbx⟩ : ∃ bx, bx = w6.heap.size := ⟨_, rfl⟩
      obtain ⟨w9, hw9⟩ : ∃ w9, w9 = w6.alloc (.cells #[.int .i64 xv.op, .string xv.name, .slice xv.aw xv.nw xv.cw, .int .i64 xv.lo, .int .i64 xv.hi, .slice xv.aa xv.na xv.ca] 29) := ⟨_, rfl⟩
      have hx9 : Ext w6 w9 := by rw [hw9]; exact (Ext.refl _).alloc _
      have HX9 := Lib.hid hx9
      have HBX := Lib.hid (show w9.heap[bx]? = some (.cells #[.int .i64 xv.op, .string xv.name, .slice xv.aw xv.nw xv.cw, .int .i64 xv.lo, .int .i64 xv.hi, .slice xv.aa xv.na xv.ca] 29 (0, 0)) by rw [hw9, hbx]; exact alloc_new w6 _)
      rw [← hw9, ← hbx]
      clear hw9 hbx hx9
      have HXB := Lib.hid (HX6.out.trans HX9.out)
      have HXT := Lib.hid (HXC.out.trans HXB.out)
      have HXX := Lib.hid (HIX.out.mono ((mask_sub _ _).trans HX9.out.sub))
      have HXZ := Lib.hid (show x.size ≤ 1000 from Nat.le_trans HMO.out.size (by simp only [bndS]; omega))
      have HIW := Lib.hid (show IntsAt w9 oa on from fun i hi => by obtain ⟨b, off, z, e, hc⟩ := HI2.out i hi; exact ⟨b, off, z, e, HXT.out.cell hc⟩)
      obtain ⟨x0, x1, x2, x3, x4, x5, xf⟩ := blk6 HBX.out
      --BEGIN Y10
      refine wp_region_growLG (n := 106) (m := 5) [] (GnW w9 x.size) (GnT w9) (GrP (cxpr10R w9 xv oa on oc)) (by kernel_rfl) (by kernel_rfl) (Nat.le_of_ble_eq_true rfl) ?gd ⟨(Ext.refl w9).drew, fun h => by simp at h, fun h => by simp at h, fun h => by simp at h⟩ ?_ ?_ ?_
      case gd =>
        intro i o j b hi ho hg
        have hi' : i = 0 ∨ i = 1 ∨ i = 2 ∨ i = 3 ∨ i = 4 := by omega
        rcases hi' with rfl | rfl | rfl | rfl | rfl <;> (cases ho; first | (cases hg; done) | (cases hg; intro v W h; exact h))
      · intro i k v W W' hi hk hne hout h hE
        have hi' : i = 0 ∨ i = 1 ∨ i = 2 ∨ i = 3 ∨ i = 4 := by omega
        clear hi hk
        by_cases hk : k = 3
        · subst hk
          obtain ⟨b, hD, hD2, hE⟩ := hE.2 rfl
          rcases hi' with rfl | rfl | rfl | rfl | rfl
          · exact h
          · exact h
          · obtain ⟨bq, e0, h⟩ := h
            exact ⟨bq, e0, (if e0 : bq = b then (by rw [e0]; exact hD2) else h.chg hE (by simpa using e0) (by have := deck_low hD; simp; omega))⟩
          · exact absurd rfl hne
          · obtain ⟨e0, h⟩ := h
            exact ⟨e0, trivial⟩
        have hE : Ext W W' := (hE.1 ‹_›)
        rcases hi' with rfl | rfl | rfl | rfl | rfl
        · exact h
        · exact h
        · obtain ⟨bq, e0, h⟩ := h
          exact ⟨bq, e0, h.ext hE⟩
        · obtain ⟨e0, h⟩ := h
          exact ⟨e0, trivial⟩
        · obtain ⟨e0, h⟩ := h
          exact ⟨e0, trivial⟩
      · intro q op hq ho L vs W hqL hcL hW hd ρ hρ
        have hq' : q = 0 ∨ q = 1 ∨ q = 2 ∨ q = 3 ∨ q = 4 := by omega
        clear hq
        have o16 : ρ (.tmp 16) = .pointer (some ⟨bx, 0, none⟩) := hρ.out 16 rfl
        have o4 : ρ (.tmp 4) = .slice oa on oc := hρ.out 4 rfl
        have i1 := hρ.ins 1 58 (by omega) rfl (Nat.le_of_ble_eq_true rfl)
        have i0 := hρ.ins 0 57 (by omega) rfl (Nat.le_of_ble_eq_true rfl)
        have i2 := hρ.ins 2 59 (by omega) rfl (Nat.le_of_ble_eq_true rfl)
        have hc := hρ.const
        have hfn := hρ.func
        clear hρ
        rcases hq' with rfl | rfl | rfl | rfl | rfl
        · have HG := Lib.hid hW
          have HW := Lib.hid (show Ext w9 W from hW.1)
          have HQL := Lib.hid hqL
          clear hW hqL hcL
          cases ho
          clear hd
          have g0 := HW.out.cell x0
          have g1 := HW.out.cell x1
          have g2 := HW.out.cell x2
          have g3 := HW.out.cell x3
          have g4 := HW.out.cell x4
          have g5 := HW.out.cell x5
          unfold GivesOp
          go_simp
          exact ⟨gnT (Ext.refl W) (by decide), gnw_step (by decide) (by decide) HG.out (Ext.refl W), rfl⟩
        · have HG := Lib.hid hW
          have HW := Lib.hid (show Ext w9 W from hW.1)
          have HQL := Lib.hid hqL
          clear hW hqL hcL
          cases ho
          clear hd
          unfold GivesOp
          go_simp
          exact ⟨gnT (Ext.refl W) (by decide), gnw_step (by decide) (by decide) HG.out (Ext.refl W), rfl⟩
        · have HG := Lib.hid hW
          have HW := Lib.hid (show Ext w9 W from hW.1)
          have HQL := Lib.hid hqL
          clear hW hqL hcL
          cases ho
          have h1 : vs 1 = .slice oa on oc := hd ⟨1, .data⟩ (by simp) rfl
          rw [h1] at i1
          clear hd
          unfold GivesOp
          go_simp
          refine (new_callsB oa on oc w9 W HIW.out HW.out hd2).mono ?_
          rintro r5 w5 ⟨b5, rfl, hd5, hx5, hb5⟩
          exact ⟨_, rfl, gnT hx5 (by decide), gnw_step (by decide) (by decide) HG.out hx5, b5, rfl, hd5⟩
        · have HG := Lib.hid hW
          have HW := Lib.hid (show Ext w9 W from hW.1)
          have HQL := Lib.hid hqL
          clear hW hqL hcL
          cases ho
          have h0 : vs 0 = .agg #[.int .i64 xv.op, .string xv.name, .slice xv.aw xv.nw xv.cw, .int .i64 xv.lo, .int .i64 xv.hi, .slice xv.aa xv.na xv.ca] := hd ⟨0, .data⟩ (by simp) rfl
          rw [h0] at i0
          obtain ⟨bq, h2, hs2⟩ : ∃ (bq : Nat), vs 2 = .pointer (some ⟨bq, 0, none⟩) ∧ DeckAt w9 W bq := hd ⟨2, .data⟩ (by simp) rfl
          have HS2 := Lib.hid hs2
          clear hs2
          rw [h2] at i2
          clear hd
          unfold GivesOp
          go_simp
          obtain ⟨Z, hz1, hz2⟩ := gnw_pick HG.out
          refine (twisted_calls 1000 (by omega) x xv w9 W bq Z HXZ.out HMO.out.fits HMO.out.few HS2.out (HXX.out.mono (sub_fresh2 HW.out (deck_low HS2.out) (fun y hy => by
            by_cases h4 : 4 ∈ L
            · obtain ⟨y4, rfl, _, _, hy4⟩ := hz2.1 h4
              simp only [List.mem_singleton] at hy; omega
            · rw [hz2.2 h4] at hy; cases hy))) hz1).mono ?_
          rintro r5 w5 ⟨ey, vy, rfl, hok, hi, hd, hc⟩
          exact ⟨_, rfl, ⟨fun h => absurd rfl h, fun _ => ⟨bq, HS2.out, hd, hc⟩⟩, gnw_3 HG.out HS2.out hc hok hi hz2.1, rfl, trivial⟩
        · have HG := Lib.hid hW
          have HW := Lib.hid (show Ext w9 W from hW.1)
          have HQL := Lib.hid hqL
          clear hW hqL hcL
          cases ho
          clear hd
          unfold GivesOp
          go_simp
          exact ⟨gnT ((Ext.refl W).alloc _) (by decide), gnw_4 HG.out, rfl, trivial⟩
      intro L vs W hLm hW hR
      rw [if_neg (by decide +kernel)]
      obtain ⟨ey, vy, y, h3, h4, q1, q2, q3, q4⟩ := hW.2.2.2 (hLm 3 (by omega)) (hLm 4 (by omega))
      have HTW := Lib.hid q1
      have HIYM := Lib.hid q2
      have HYZ := Lib.hid (And.intro q3 q4)
      clear q1 q2 q3 q4
      unfold ExV.val exV at h3
      refine wpOp_lastG rfl ?_
      change wpList _ _ _ [⟨none, .store _ (.tmp 17) (.tmp 60), _, _, _, none⟩] _ _
      simp only [acts, dstAt, List.range, List.range.loop, List.foldl_cons, List.foldl_nil, h3, h4]
      go_simp
      have hW2 : Ext w9 W := hW.1
      clear hR hW hLm h3 h4
      --END Y10
      obtain ⟨wz, hwz⟩ : ∃ wz, wz = put6 W y vy := ⟨_, rfl⟩
      have HBY := Lib.hid (show wz.heap[y]? = some (.cells vy.cells.toArray 29 (0, 0)) by rw [hwz]; exact put6_blk (y := ⟨0, ⟨#[]⟩, none, 0, 0, 0, 0, none, 0, 0⟩) HYZ.out.1 vy)
      have HCY := Lib.hid (show Chg [y] W wz by rw [hwz]; exact put6_chg W y vy (by simp))
      have hx10 : Ext w9 wz := HCY.out.ext hW2 (by simpa using HYZ.out.2)
      have HX10 := Lib.hid hx10
      have HIY := Lib.hid (show IsEx wz ey vy.val from HIYM.out.mono (HCY.out.sub.trans (mask_sub _ _)))
      have hyz : W.heap[y]? = some (.cells #[.int .i64 0, .string ⟨#[]⟩, .slice none 0 0, .int .i64 0, .int .i64 0, .slice none 0 0] 29 (0, 0)) := HYZ.out.1
      have hlty := blk_lt hyz
      obtain ⟨y0, y1, y2, y3, y4, y5, yf⟩ := blk6 hyz
      clear hW2 hyz HYZ HIYM x0 x1 x2 x3 x4 x5 xf
      go_upto_region 11 with fail
      unfold put6 at hwz
      rw [← hwz]
      clear hwz y0 y1 y2 y3 y4 y5 yf hlty hx10
      have HXQ := Lib.hid (HXT.out.trans HX10.out)
      have HXR := Lib.hid (HXB.out.trans HX10.out)
      obtain ⟨ii0, iif⟩ := blk1 (HXR.out.blk HB0.out)
      obtain ⟨e0, e1, e2, e3, e4, e5, ef⟩ := blk6 (HXR.out.blk HB1.out)
      obtain ⟨x0, x1, x2, x3, x4, x5, xf⟩ := blk6 (HX10.out.blk HBX.out)
      obtain ⟨y0, y1, y2, y3, y4, y5, yf⟩ := blk6 HBY.out
      obtain ⟨b0, bf⟩ := blk1 (HX10.out.blk (HX9.out.blk HBS6.out))
      have HSI := Lib.hid (HS.out.ext HXQ.out)
      have HST := Lib.hid (HSC6.out.mono ((mask_sub _ _).trans (HX9.out.trans HX10.out).sub))
      have HLI := Lib.hid (HL.out.ext HXQ.out)
      have HLM := Lib.hid (HM6.out.mono ((mask_sub _ _).trans (HX9.out.trans HX10.out).sub))
      have HEI := Lib.hid (HE.out.ext HXQ.out)
      have HXI := Lib.hid (HXX.out.ext HX10.out)
      have HOI := Lib.hid (HO.out.ext HXQ.out)
      have HMF := Lib.hid (show ∀ y ∈ m, y.name.size ≤ 1000000000000000 by
        intro y hy
        have := (HGL.out.1 y hy).2
        have h3 : pcd.size = 2 := rfl
        omega)
      have hal : attrs.length ≤ 1000000000000000 := by have := (schemas_ok attrs HAT.out).2.2; omega
      have HTF := Lib.hid (attrs_fits HAT.out)
      obtain ⟨E1, hE1⟩ : ∃ E1, E1 = exprErr s l e := ⟨_, rfl⟩
      obtain ⟨E2, hE2⟩ : ∃ E2, E2 = exprErr attrs m e := ⟨_, rfl⟩
      obtain ⟨E3, hE3⟩ : ∃ E3, E3 = exprErr attrs m x := ⟨_, rfl⟩
      obtain ⟨E4, hE4⟩ : ∃ E4, E4 = exprErr attrs m ey := ⟨_, rfl⟩
      have HC1 := Lib.hid (show ∀ W, Ext wz W → Calls Tryz.prog 11 _ W (GivesE (.int .i64 E1) W) from fun W hW => by
        rw [hE1]; exact checkExpr_calls s l la ln lc e _ _ W HSF.out (by have := HSN.out; omega) (HLI.out.ext hW) (by omega) (fun x hx => (HLF.out x hx).1) HEW.out HEF.out (HOI.out.ext hW) (HSI.out.ext hW) (HEI.out.ext hW))
      have HC2 := Lib.hid (show ∀ W, Ext wz W → Calls Tryz.prog 12 _ W (GivesE (.int .i64 E1) W) from fun W hW => by
        rw [hE1]; exact rExprErr_calls s l la ln lc e _ _ W HSF.out (by have := HSN.out; omega) (HLI.out.ext hW) (by omega) HEW.out HEF.out (slim_of_size e (by have := HES.out; omega)) (HSI.out.ext hW) (HEI.out.ext hW))
      have HC3 := Lib.hid (show ∀ W, Ext wz W → Calls Tryz.prog 11 _ W (GivesE (.int .i64 E2) W) from fun W hW => by
        rw [hE2]; exact checkExpr_calls attrs m ma k mc e _ _ W HTF.out hal (HLM.out.ext hW) (by omega) HMF.out HEW.out HEF.out (HOI.out.ext hW) (HST.out.ext hW) (HEI.out.ext hW))
      have HC4 := Lib.hid (show ∀ W, Ext wz W → Calls Tryz.prog 12 _ W (GivesE (.int .i64 E2) W) from fun W hW => by
        rw [hE2]; exact rExprErr_calls attrs m ma k mc e _ _ W HTF.out hal (HLM.out.ext hW) (by omega) HEW.out HEF.out (slim_of_size e (by have := HES.out; omega)) (HST.out.ext hW) (HEI.out.ext hW))
      have HC5 := Lib.hid (show ∀ W, Ext wz W → Calls Tryz.prog 11 _ W (GivesE (.int .i64 E3) W) from fun W hW => by
        rw [hE3]; exact checkExpr_calls attrs m ma k mc x _ _ W HTF.out hal (HLM.out.ext hW) (by omega) HMF.out HMO.out.few HMO.out.fits (HOI.out.ext hW) (HST.out.ext hW) (HXI.out.ext hW))
      have HC6 := Lib.hid (show ∀ W, Ext wz W → Calls Tryz.prog 12 _ W (GivesE (.int .i64 E3) W) from fun W hW => by
        rw [hE3]; exact rExprErr_calls attrs m ma k mc x _ _ W HTF.out hal (HLM.out.ext hW) (by omega) HMO.out.few HMO.out.fits (slim_of_size x (by have := HXZ.out; omega)) (HST.out.ext hW) (HXI.out.ext hW))
      have HC7 := Lib.hid (show ∀ W, Ext wz W → Calls Tryz.prog 11 _ W (GivesE (.int .i64 E4) W) from fun W hW => by
        rw [hE4]; exact checkExpr_calls attrs m ma k mc ey _ _ W HTF.out hal (HLM.out.ext hW) (by omega) HMF.out HTW.out.2.1 HTW.out.1 (HOI.out.ext hW) (HST.out.ext hW) (HIY.out.ext hW))
      have HC8 := Lib.hid (show ∀ W, Ext wz W → Calls Tryz.prog 12 _ W (GivesE (.int .i64 E4) W) from fun W hW => by
        rw [hE4]; exact rExprErr_calls attrs m ma k mc ey _ _ W HTF.out hal (HLM.out.ext hW) (by omega) HTW.out.2.1 HTW.out.1 (slim_of_size ey (by have := HXZ.out; have := HTW.out.2.2; omega)) (HST.out.ext hW) (HIY.out.ext hW))
      have HAW := Lib.hid (show ∀ W, Ext wz W → Calls Tryz.prog 6 #[] W (GivesE (.bool true) W) from fun W _ => awake10_calls W)
      unfold ExV.val exV at *
      clear hE1 hE2 hE3 hE4
      obtain ⟨mn, rfl⟩ : ∃ mn, mn = k := ⟨_, rfl⟩
      --BEGIN Y11
      refine wp_region_growLG (n := 106) (m := 46) [45] (GrGV wz) GrE (GrP (cxpr11R ia inn ic la ln lc e aw nw cw aa na ca sa sn sc ma mn mc xv vy E1 E2 E3 E4)) (by kernel_rfl) (by kernel_rfl) (Nat.le_of_ble_eq_true rfl) ?gd ((Ext.refl wz).drew) ?_ ?_ ?_
      case gd =>
        intro i o j b hi ho hg
        have hi' : i = 0 ∨ i = 1 ∨ i = 2 ∨ i = 3 ∨ i = 4 ∨ i = 5 ∨ i = 6 ∨ i = 7 ∨ i = 8 ∨ i = 9 ∨ i = 10 ∨ i = 11 ∨ i = 12 ∨ i = 13 ∨ i = 14 ∨ i = 15 ∨ i = 16 ∨ i = 17 ∨ i = 18 ∨ i = 19 ∨ i = 20 ∨ i = 21 ∨ i = 22 ∨ i = 23 ∨ i = 24 ∨ i = 25 ∨ i = 26 ∨ i = 27 ∨ i = 28 ∨ i = 29 ∨ i = 30 ∨ i = 31 ∨ i = 32 ∨ i = 33 ∨ i = 34 ∨ i = 35 ∨ i = 36 ∨ i = 37 ∨ i = 38 ∨ i = 39 ∨ i = 40 ∨ i = 41 ∨ i = 42 ∨ i = 43 ∨ i = 44 ∨ i = 45 := by omega
        rcases hi' with rfl | rfl | rfl | rfl | rfl | rfl | rfl | rfl | rfl | rfl | rfl | rfl | rfl | rfl | rfl | rfl | rfl | rfl | rfl | rfl | rfl | rfl | rfl | rfl | rfl | rfl | rfl | rfl | rfl | rfl | rfl | rfl | rfl | rfl | rfl | rfl | rfl | rfl | rfl | rfl | rfl | rfl | rfl | rfl | rfl | rfl <;> (cases ho; first | (cases hg; done) | (cases hg; intro v W h; exact h))
      · intro i k v W W' hi hk hne hout h hE
        have hE : Ext W W' := hE
        have hi' : i = 0 ∨ i = 1 ∨ i = 2 ∨ i = 3 ∨ i = 4 ∨ i = 5 ∨ i = 6 ∨ i = 7 ∨ i = 8 ∨ i = 9 ∨ i = 10 ∨ i = 11 ∨ i = 12 ∨ i = 13 ∨ i = 14 ∨ i = 15 ∨ i = 16 ∨ i = 17 ∨ i = 18 ∨ i = 19 ∨ i = 20 ∨ i = 21 ∨ i = 22 ∨ i = 23 ∨ i = 24 ∨ i = 25 ∨ i = 26 ∨ i = 27 ∨ i = 28 ∨ i = 29 ∨ i = 30 ∨ i = 31 ∨ i = 32 ∨ i = 33 ∨ i = 34 ∨ i = 35 ∨ i = 36 ∨ i = 37 ∨ i = 38 ∨ i = 39 ∨ i = 40 ∨ i = 41 ∨ i = 42 ∨ i = 43 ∨ i = 44 ∨ i = 45 := by omega
        clear hi hk hne hout
        rcases hi' with rfl | rfl | rfl | rfl | rfl | rfl | rfl | rfl | rfl | rfl | rfl | rfl | rfl | rfl | rfl | rfl | rfl | rfl | rfl | rfl | rfl | rfl | rfl | rfl | rfl | rfl | rfl | rfl | rfl | rfl | rfl | rfl | rfl | rfl | rfl | rfl | rfl | rfl | rfl | rfl | rfl | rfl | rfl | rfl | rfl | rfl
        · exact h
        · exact h
        · exact h
        · exact h
        · exact h
        · exact h
        · exact h
        · exact h
        · exact h
        · exact h
        · exact h
        · exact h
        · exact h
        · exact h
        · exact h
        · exact h
        · exact h
        · exact h
        · exact h
        · exact h
        · exact h
        · exact h
        · exact h
        · exact h
        · exact h
        · exact h
        · exact h
        · exact h
        · exact h
        · exact h
        · exact h
        · exact h
        · exact h
        · exact h
        · exact h
        · exact h
        · exact h
        · exact h
        · exact h
        · exact h
        · exact h
        · exact h
        · exact h
        · exact h
        · exact h
        · exact h
      · intro q op hq ho L vs W hqL hcL hW hd ρ hρ
        have hq' : q = 0 ∨ q = 1 ∨ q = 2 ∨ q = 3 ∨ q = 4 ∨ q = 5 ∨ q = 6 ∨ q = 7 ∨ q = 8 ∨ q = 9 ∨ q = 10 ∨ q = 11 ∨ q = 12 ∨ q = 13 ∨ q = 14 ∨ q = 15 ∨ q = 16 ∨ q = 17 ∨ q = 18 ∨ q = 19 ∨ q = 20 ∨ q = 21 ∨ q = 22 ∨ q = 23 ∨ q = 24 ∨ q = 25 ∨ q = 26 ∨ q = 27 ∨ q = 28 ∨ q = 29 ∨ q = 30 ∨ q = 31 ∨ q = 32 ∨ q = 33 ∨ q = 34 ∨ q = 35 ∨ q = 36 ∨ q = 37 ∨ q = 38 ∨ q = 39 ∨ q = 40 ∨ q = 41 ∨ q = 42 ∨ q = 43 ∨ q = 44 ∨ q = 45 := by omega
        clear hq
        have o5 : ρ (.tmp 5) = .pointer (some ⟨w.heap.size, 0, none⟩) := hρ.out 5 rfl
        have o1 : ρ (.tmp 1) = .slice la ln lc := hρ.out 1 rfl
        have o7 : ρ (.tmp 7) = .pointer (some ⟨w.heap.size + 1, 0, none⟩) := hρ.out 7 rfl
        have i0 := hρ.ins 0 61 (by omega) rfl (Nat.le_of_ble_eq_true rfl)
        have i1 := hρ.ins 1 62 (by omega) rfl (Nat.le_of_ble_eq_true rfl)
        have i2 := hρ.ins 2 63 (by omega) rfl (Nat.le_of_ble_eq_true rfl)
        have i4 := hρ.ins 4 65 (by omega) rfl (Nat.le_of_ble_eq_true rfl)
        have i5 := hρ.ins 5 66 (by omega) rfl (Nat.le_of_ble_eq_true rfl)
        have i6 := hρ.ins 6 67 (by omega) rfl (Nat.le_of_ble_eq_true rfl)
        have i3 := hρ.ins 3 64 (by omega) rfl (Nat.le_of_ble_eq_true rfl)
        have i7 := hρ.ins 7 68 (by omega) rfl (Nat.le_of_ble_eq_true rfl)
        have i8 := hρ.ins 8 69 (by omega) rfl (Nat.le_of_ble_eq_true rfl)
        have o11 : ρ (.tmp 11) = .pointer (some ⟨bs, 0, none⟩) := hρ.out 11 rfl
        have o12 : ρ (.tmp 12) = .slice ma mn mc := hρ.out 12 rfl
        have i10 := hρ.ins 10 71 (by omega) rfl (Nat.le_of_ble_eq_true rfl)
        have i11 := hρ.ins 11 72 (by omega) rfl (Nat.le_of_ble_eq_true rfl)
        have i12 := hρ.ins 12 73 (by omega) rfl (Nat.le_of_ble_eq_true rfl)
        have i14 := hρ.ins 14 75 (by omega) rfl (Nat.le_of_ble_eq_true rfl)
        have i15 := hρ.ins 15 76 (by omega) rfl (Nat.le_of_ble_eq_true rfl)
        have i16 := hρ.ins 16 77 (by omega) rfl (Nat.le_of_ble_eq_true rfl)
        have i13 := hρ.ins 13 74 (by omega) rfl (Nat.le_of_ble_eq_true rfl)
        have i17 := hρ.ins 17 78 (by omega) rfl (Nat.le_of_ble_eq_true rfl)
        have i9 := hρ.ins 9 70 (by omega) rfl (Nat.le_of_ble_eq_true rfl)
        have i18 := hρ.ins 18 79 (by omega) rfl (Nat.le_of_ble_eq_true rfl)
        have i19 := hρ.ins 19 80 (by omega) rfl (Nat.le_of_ble_eq_true rfl)
        have o16 : ρ (.tmp 16) = .pointer (some ⟨bx, 0, none⟩) := hρ.out 16 rfl
        have i21 := hρ.ins 21 82 (by omega) rfl (Nat.le_of_ble_eq_true rfl)
        have i22 := hρ.ins 22 83 (by omega) rfl (Nat.le_of_ble_eq_true rfl)
        have i23 := hρ.ins 23 84 (by omega) rfl (Nat.le_of_ble_eq_true rfl)
        have i25 := hρ.ins 25 86 (by omega) rfl (Nat.le_of_ble_eq_true rfl)
        have i26 := hρ.ins 26 87 (by omega) rfl (Nat.le_of_ble_eq_true rfl)
        have i27 := hρ.ins 27 88 (by omega) rfl (Nat.le_of_ble_eq_true rfl)
        have i24 := hρ.ins 24 85 (by omega) rfl (Nat.le_of_ble_eq_true rfl)
        have i28 := hρ.ins 28 89 (by omega) rfl (Nat.le_of_ble_eq_true rfl)
        have i20 := hρ.ins 20 81 (by omega) rfl (Nat.le_of_ble_eq_true rfl)
        have i29 := hρ.ins 29 90 (by omega) rfl (Nat.le_of_ble_eq_true rfl)
        have i30 := hρ.ins 30 91 (by omega) rfl (Nat.le_of_ble_eq_true rfl)
        have o17 : ρ (.tmp 17) = .pointer (some ⟨y, 0, none⟩) := hρ.out 17 rfl
        have i32 := hρ.ins 32 93 (by omega) rfl (Nat.le_of_ble_eq_true rfl)
        have i33 := hρ.ins 33 94 (by omega) rfl (Nat.le_of_ble_eq_true rfl)
        have i34 := hρ.ins 34 95 (by omega) rfl (Nat.le_of_ble_eq_true rfl)
        have i36 := hρ.ins 36 97 (by omega) rfl (Nat.le_of_ble_eq_true rfl)
        have i37 := hρ.ins 37 98 (by omega) rfl (Nat.le_of_ble_eq_true rfl)
        have i38 := hρ.ins 38 99 (by omega) rfl (Nat.le_of_ble_eq_true rfl)
        have i35 := hρ.ins 35 96 (by omega) rfl (Nat.le_of_ble_eq_true rfl)
        have i39 := hρ.ins 39 100 (by omega) rfl (Nat.le_of_ble_eq_true rfl)
        have i31 := hρ.ins 31 92 (by omega) rfl (Nat.le_of_ble_eq_true rfl)
        have i40 := hρ.ins 40 101 (by omega) rfl (Nat.le_of_ble_eq_true rfl)
        have i41 := hρ.ins 41 102 (by omega) rfl (Nat.le_of_ble_eq_true rfl)
        have i42 := hρ.ins 42 103 (by omega) rfl (Nat.le_of_ble_eq_true rfl)
        have i43 := hρ.ins 43 104 (by omega) rfl (Nat.le_of_ble_eq_true rfl)
        have i44 := hρ.ins 44 105 (by omega) rfl (Nat.le_of_ble_eq_true rfl)
        have hc := hρ.const
        have hfn := hρ.func
        clear hρ
        rcases hq' with rfl | rfl | rfl | rfl | rfl | rfl | rfl | rfl | rfl | rfl | rfl | rfl | rfl | rfl | rfl | rfl | rfl | rfl | rfl | rfl | rfl | rfl | rfl | rfl | rfl | rfl | rfl | rfl | rfl | rfl | rfl | rfl | rfl | rfl | rfl | rfl | rfl | rfl | rfl | rfl | rfl | rfl | rfl | rfl | rfl | rfl
        · have HG := Lib.hid hW
          have HW := Lib.hid (show Ext wz W from hW)
          have HQL := Lib.hid hqL
          clear hW hqL hcL
          cases ho
          clear hd
          have g9 := HW.out.cell ii0
          unfold GivesOp
          go_simp
          exact ⟨Ext.refl _, HW.out, rfl⟩
        · have HG := Lib.hid hW
          have HW := Lib.hid (show Ext wz W from hW)
          have HQL := Lib.hid hqL
          clear hW hqL hcL
          cases ho
          clear hd
          unfold GivesOp
          go_simp
          exact ⟨Ext.refl _, HW.out, rfl⟩
        · have HG := Lib.hid hW
          have HW := Lib.hid (show Ext wz W from hW)
          have HQL := Lib.hid hqL
          clear hW hqL hcL
          cases ho
          clear hd
          have g0 := HW.out.cell e0
          have g1 := HW.out.cell e1
          have g2 := HW.out.cell e2
          have g3 := HW.out.cell e3
          have g4 := HW.out.cell e4
          have g5 := HW.out.cell e5
          unfold GivesOp
          go_simp
          exact ⟨Ext.refl _, HW.out, rfl⟩
        · have HG := Lib.hid hW
          have HW := Lib.hid (show Ext wz W from hW)
          have HQL := Lib.hid hqL
          clear hW hqL hcL
          cases ho
          have h0 : vs 0 = .agg #[.slice ia inn ic] := hd ⟨0, .data⟩ (by simp) rfl
          rw [h0] at i0
          have h1 : vs 1 = .slice la ln lc := hd ⟨1, .data⟩ (by simp) rfl
          rw [h1] at i1
          have h2 : vs 2 = .agg #[.int .i64 e.op, .string e.name, .slice aw nw cw, .int .i64 e.lo, .int .i64 e.hi, .slice aa na ca] := hd ⟨2, .data⟩ (by simp) rfl
          rw [h2] at i2
          clear hd
          unfold GivesOp
          go_simp
          refine (HC1.out W HW.out).mono ?_
          rintro e5 w5 ⟨rfl, hx5⟩
          exact ⟨_, rfl, hx5, HW.out.trans hx5, rfl⟩
        · have HG := Lib.hid hW
          have HW := Lib.hid (show Ext wz W from hW)
          have HQL := Lib.hid hqL
          clear hW hqL hcL
          cases ho
          clear hd
          have g9 := HW.out.cell ii0
          unfold GivesOp
          go_simp
          exact ⟨Ext.refl _, HW.out, rfl⟩
        · have HG := Lib.hid hW
          have HW := Lib.hid (show Ext wz W from hW)
          have HQL := Lib.hid hqL
          clear hW hqL hcL
          cases ho
          clear hd
          unfold GivesOp
          go_simp
          exact ⟨Ext.refl _, HW.out, rfl⟩
        · have HG := Lib.hid hW
          have HW := Lib.hid (show Ext wz W from hW)
          have HQL := Lib.hid hqL
          clear hW hqL hcL
          cases ho
          clear hd
          have g0 := HW.out.cell e0
          have g1 := HW.out.cell e1
          have g2 := HW.out.cell e2
          have g3 := HW.out.cell e3
          have g4 := HW.out.cell e4
          have g5 := HW.out.cell e5
          unfold GivesOp
          go_simp
          exact ⟨Ext.refl _, HW.out, rfl⟩
        · have HG := Lib.hid hW
          have HW := Lib.hid (show Ext wz W from hW)
          have HQL := Lib.hid hqL
          clear hW hqL hcL
          cases ho
          have h4 : vs 4 = .agg #[.slice ia inn ic] := hd ⟨4, .data⟩ (by simp) rfl
          rw [h4] at i4
          have h5 : vs 5 = .slice la ln lc := hd ⟨5, .data⟩ (by simp) rfl
          rw [h5] at i5
          have h6 : vs 6 = .agg #[.int .i64 e.op, .string e.name, .slice aw nw cw, .int .i64 e.lo, .int .i64 e.hi, .slice aa na ca] := hd ⟨6, .data⟩ (by simp) rfl
          rw [h6] at i6
          clear hd
          unfold GivesOp
          go_simp
          refine (HC2.out W HW.out).mono ?_
          rintro e5 w5 ⟨rfl, hx5⟩
          exact ⟨_, rfl, hx5, HW.out.trans hx5, rfl⟩
        · have HG := Lib.hid hW
          have HW := Lib.hid (show Ext wz W from hW)
          have HQL := Lib.hid hqL
          clear hW hqL hcL
          cases ho
          have h3 : vs 3 = .int .i64 E1 := hd ⟨3, .data⟩ (by simp) rfl
          rw [h3] at i3
          have h7 : vs 7 = .int .i64 E1 := hd ⟨7, .data⟩ (by simp) rfl
          rw [h7] at i7
          clear hd
          unfold GivesOp
          go_simp
          exact ⟨Ext.refl _, HW.out, rfl⟩
        · have HG := Lib.hid hW
          have HW := Lib.hid (show Ext wz W from hW)
          have HQL := Lib.hid hqL
          clear hW hqL hcL
          cases ho
          have h8 : vs 8 = .bool true := hd ⟨8, .data⟩ (by simp) rfl
          rw [h8] at i8
          clear hd
          unfold GivesOp
          go_simp
          exact ⟨Ext.refl _, HW.out, rfl⟩
        · have HG := Lib.hid hW
          have HW := Lib.hid (show Ext wz W from hW)
          have HQL := Lib.hid hqL
          clear hW hqL hcL
          cases ho
          clear hd
          have g9 := HW.out.cell b0
          unfold GivesOp
          go_simp
          exact ⟨Ext.refl _, HW.out, rfl⟩
        · have HG := Lib.hid hW
          have HW := Lib.hid (show Ext wz W from hW)
          have HQL := Lib.hid hqL
          clear hW hqL hcL
          cases ho
          clear hd
          unfold GivesOp
          go_simp
          exact ⟨Ext.refl _, HW.out, rfl⟩
        · have HG := Lib.hid hW
          have HW := Lib.hid (show Ext wz W from hW)
          have HQL := Lib.hid hqL
          clear hW hqL hcL
          cases ho
          clear hd
          have g0 := HW.out.cell e0
          have g1 := HW.out.cell e1
          have g2 := HW.out.cell e2
          have g3 := HW.out.cell e3
          have g4 := HW.out.cell e4
          have g5 := HW.out.cell e5
          unfold GivesOp
          go_simp
          exact ⟨Ext.refl _, HW.out, rfl⟩
        · have HG := Lib.hid hW
          have HW := Lib.hid (show Ext wz W from hW)
          have HQL := Lib.hid hqL
          clear hW hqL hcL
          cases ho
          have h10 : vs 10 = .agg #[.slice sa sn sc] := hd ⟨10, .data⟩ (by simp) rfl
          rw [h10] at i10
          have h11 : vs 11 = .slice ma mn mc := hd ⟨11, .data⟩ (by simp) rfl
          rw [h11] at i11
          have h12 : vs 12 = .agg #[.int .i64 e.op, .string e.name, .slice aw nw cw, .int .i64 e.lo, .int .i64 e.hi, .slice aa na ca] := hd ⟨12, .data⟩ (by simp) rfl
          rw [h12] at i12
          clear hd
          unfold GivesOp
          go_simp
          refine (HC3.out W HW.out).mono ?_
          rintro e5 w5 ⟨rfl, hx5⟩
          exact ⟨_, rfl, hx5, HW.out.trans hx5, rfl⟩
        · have HG := Lib.hid hW
          have HW := Lib.hid (show Ext wz W from hW)
          have HQL := Lib.hid hqL
          clear hW hqL hcL
          cases ho
          clear hd
          have g9 := HW.out.cell b0
          unfold GivesOp
          go_simp
          exact ⟨Ext.refl _, HW.out, rfl⟩
        · have HG := Lib.hid hW
          have HW := Lib.hid (show Ext wz W from hW)
          have HQL := Lib.hid hqL
          clear hW hqL hcL
          cases ho
          clear hd
          unfold GivesOp
          go_simp
          exact ⟨Ext.refl _, HW.out, rfl⟩
        · have HG := Lib.hid hW
          have HW := Lib.hid (show Ext wz W from hW)
          have HQL := Lib.hid hqL
          clear hW hqL hcL
          cases ho
          clear hd
          have g0 := HW.out.cell e0
          have g1 := HW.out.cell e1
          have g2 := HW.out.cell e2
          have g3 := HW.out.cell e3
          have g4 := HW.out.cell e4
          have g5 := HW.out.cell e5
          unfold GivesOp
          go_simp
          exact ⟨Ext.refl _, HW.out, rfl⟩
        · have HG := Lib.hid hW
          have HW := Lib.hid (show Ext wz W from hW)
          have HQL := Lib.hid hqL
          clear hW hqL hcL
          cases ho
          have h14 : vs 14 = .agg #[.slice sa sn sc] := hd ⟨14, .data⟩ (by simp) rfl
          rw [h14] at i14
          have h15 : vs 15 = .slice ma mn mc := hd ⟨15, .data⟩ (by simp) rfl
          rw [h15] at i15
          have h16 : vs 16 = .agg #[.int .i64 e.op, .string e.name, .slice aw nw cw, .int .i64 e.lo, .int .i64 e.hi, .slice aa na ca] := hd ⟨16, .data⟩ (by simp) rfl
          rw [h16] at i16
          clear hd
          unfold GivesOp
          go_simp
          refine (HC4.out W HW.out).mono ?_
          rintro e5 w5 ⟨rfl, hx5⟩
          exact ⟨_, rfl, hx5, HW.out.trans hx5, rfl⟩
        · have HG := Lib.hid hW
          have HW := Lib.hid (show Ext wz W from hW)
          have HQL := Lib.hid hqL
          clear hW hqL hcL
          cases ho
          have h13 : vs 13 = .int .i64 E2 := hd ⟨13, .data⟩ (by simp) rfl
          rw [h13] at i13
          have h17 : vs 17 = .int .i64 E2 := hd ⟨17, .data⟩ (by simp) rfl
          rw [h17] at i17
          clear hd
          unfold GivesOp
          go_simp
          exact ⟨Ext.refl _, HW.out, rfl⟩
        · have HG := Lib.hid hW
          have HW := Lib.hid (show Ext wz W from hW)
          have HQL := Lib.hid hqL
          clear hW hqL hcL
          cases ho
          have h9 : vs 9 = .bool true := hd ⟨9, .data⟩ (by simp) rfl
          rw [h9] at i9
          have h18 : vs 18 = .bool true := hd ⟨18, .data⟩ (by simp) rfl
          rw [h18] at i18
          clear hd
          unfold GivesOp
          go_simp
          exact ⟨Ext.refl _, HW.out, rfl⟩
        · have HG := Lib.hid hW
          have HW := Lib.hid (show Ext wz W from hW)
          have HQL := Lib.hid hqL
          clear hW hqL hcL
          cases ho
          have h19 : vs 19 = .bool true := hd ⟨19, .data⟩ (by simp) rfl
          rw [h19] at i19
          clear hd
          unfold GivesOp
          go_simp
          exact ⟨Ext.refl _, HW.out, rfl⟩
        · have HG := Lib.hid hW
          have HW := Lib.hid (show Ext wz W from hW)
          have HQL := Lib.hid hqL
          clear hW hqL hcL
          cases ho
          clear hd
          have g9 := HW.out.cell b0
          unfold GivesOp
          go_simp
          exact ⟨Ext.refl _, HW.out, rfl⟩
        · have HG := Lib.hid hW
          have HW := Lib.hid (show Ext wz W from hW)
          have HQL := Lib.hid hqL
          clear hW hqL hcL
          cases ho
          clear hd
          unfold GivesOp
          go_simp
          exact ⟨Ext.refl _, HW.out, rfl⟩
        · have HG := Lib.hid hW
          have HW := Lib.hid (show Ext wz W from hW)
          have HQL := Lib.hid hqL
          clear hW hqL hcL
          cases ho
          clear hd
          have g0 := HW.out.cell x0
          have g1 := HW.out.cell x1
          have g2 := HW.out.cell x2
          have g3 := HW.out.cell x3
          have g4 := HW.out.cell x4
          have g5 := HW.out.cell x5
          unfold GivesOp
          go_simp
          exact ⟨Ext.refl _, HW.out, rfl⟩
        · have HG := Lib.hid hW
          have HW := Lib.hid (show Ext wz W from hW)
          have HQL := Lib.hid hqL
          clear hW hqL hcL
          cases ho
          have h21 : vs 21 = .agg #[.slice sa sn sc] := hd ⟨21, .data⟩ (by simp) rfl
          rw [h21] at i21
          have h22 : vs 22 = .slice ma mn mc := hd ⟨22, .data⟩ (by simp) rfl
          rw [h22] at i22
          have h23 : vs 23 = .agg #[.int .i64 xv.op, .string xv.name, .slice xv.aw xv.nw xv.cw, .int .i64 xv.lo, .int .i64 xv.hi, .slice xv.aa xv.na xv.ca] := hd ⟨23, .data⟩ (by simp) rfl
          rw [h23] at i23
          clear hd
          unfold GivesOp
          go_simp
          refine (HC5.out W HW.out).mono ?_
          rintro e5 w5 ⟨rfl, hx5⟩
          exact ⟨_, rfl, hx5, HW.out.trans hx5, rfl⟩
        · have HG := Lib.hid hW
          have HW := Lib.hid (show Ext wz W from hW)
          have HQL := Lib.hid hqL
          clear hW hqL hcL
          cases ho
          clear hd
          have g9 := HW.out.cell b0
          unfold GivesOp
          go_simp
          exact ⟨Ext.refl _, HW.out, rfl⟩
        · have HG := Lib.hid hW
          have HW := Lib.hid (show Ext wz W from hW)
          have HQL := Lib.hid hqL
          clear hW hqL hcL
          cases ho
          clear hd
          unfold GivesOp
          go_simp
          exact ⟨Ext.refl _, HW.out, rfl⟩
        · have HG := Lib.hid hW
          have HW := Lib.hid (show Ext wz W from hW)
          have HQL := Lib.hid hqL
          clear hW hqL hcL
          cases ho
          clear hd
          have g0 := HW.out.cell x0
          have g1 := HW.out.cell x1
          have g2 := HW.out.cell x2
          have g3 := HW.out.cell x3
          have g4 := HW.out.cell x4
          have g5 := HW.out.cell x5
          unfold GivesOp
          go_simp
          exact ⟨Ext.refl _, HW.out, rfl⟩
        · have HG := Lib.hid hW
          have HW := Lib.hid (show Ext wz W from hW)
          have HQL := Lib.hid hqL
          clear hW hqL hcL
          cases ho
          have h25 : vs 25 = .agg #[.slice sa sn sc] := hd ⟨25, .data⟩ (by simp) rfl
          rw [h25] at i25
          have h26 : vs 26 = .slice ma mn mc := hd ⟨26, .data⟩ (by simp) rfl
          rw [h26] at i26
          have h27 : vs 27 = .agg #[.int .i64 xv.op, .string xv.name, .slice xv.aw xv.nw xv.cw, .int .i64 xv.lo, .int .i64 xv.hi, .slice xv.aa xv.na xv.ca] := hd ⟨27, .data⟩ (by simp) rfl
          rw [h27] at i27
          clear hd
          unfold GivesOp
          go_simp
          refine (HC6.out W HW.out).mono ?_
          rintro e5 w5 ⟨rfl, hx5⟩
          exact ⟨_, rfl, hx5, HW.out.trans hx5, rfl⟩
        · have HG := Lib.hid hW
          have HW := Lib.hid (show Ext wz W from hW)
          have HQL := Lib.hid hqL
          clear hW hqL hcL
          cases ho
          have h24 : vs 24 = .int .i64 E3 := hd ⟨24, .data⟩ (by simp) rfl
          rw [h24] at i24
          have h28 : vs 28 = .int .i64 E3 := hd ⟨28, .data⟩ (by simp) rfl
          rw [h28] at i28
          clear hd
          unfold GivesOp
          go_simp
          exact ⟨Ext.refl _, HW.out, rfl⟩
        · have HG := Lib.hid hW
          have HW := Lib.hid (show Ext wz W from hW)
          have HQL := Lib.hid hqL
          clear hW hqL hcL
          cases ho
          have h20 : vs 20 = .bool true := hd ⟨20, .data⟩ (by simp) rfl
          rw [h20] at i20
          have h29 : vs 29 = .bool true := hd ⟨29, .data⟩ (by simp) rfl
          rw [h29] at i29
          clear hd
          unfold GivesOp
          go_simp
          exact ⟨Ext.refl _, HW.out, rfl⟩
        · have HG := Lib.hid hW
          have HW := Lib.hid (show Ext wz W from hW)
          have HQL := Lib.hid hqL
          clear hW hqL hcL
          cases ho
          have h30 : vs 30 = .bool true := hd ⟨30, .data⟩ (by simp) rfl
          rw [h30] at i30
          clear hd
          unfold GivesOp
          go_simp
          exact ⟨Ext.refl _, HW.out, rfl⟩
        · have HG := Lib.hid hW
          have HW := Lib.hid (show Ext wz W from hW)
          have HQL := Lib.hid hqL
          clear hW hqL hcL
          cases ho
          clear hd
          have g9 := HW.out.cell b0
          unfold GivesOp
          go_simp
          exact ⟨Ext.refl _, HW.out, rfl⟩
        · have HG := Lib.hid hW
          have HW := Lib.hid (show Ext wz W from hW)
          have HQL := Lib.hid hqL
          clear hW hqL hcL
          cases ho
          clear hd
          unfold GivesOp
          go_simp
          exact ⟨Ext.refl _, HW.out, rfl⟩
        · have HG := Lib.hid hW
          have HW := Lib.hid (show Ext wz W from hW)
          have HQL := Lib.hid hqL
          clear hW hqL hcL
          cases ho
          clear hd
          have g0 := HW.out.cell y0
          have g1 := HW.out.cell y1
          have g2 := HW.out.cell y2
          have g3 := HW.out.cell y3
          have g4 := HW.out.cell y4
          have g5 := HW.out.cell y5
          unfold GivesOp
          go_simp
          exact ⟨Ext.refl _, HW.out, rfl⟩
        · have HG := Lib.hid hW
          have HW := Lib.hid (show Ext wz W from hW)
          have HQL := Lib.hid hqL
          clear hW hqL hcL
          cases ho
          have h32 : vs 32 = .agg #[.slice sa sn sc] := hd ⟨32, .data⟩ (by simp) rfl
          rw [h32] at i32
          have h33 : vs 33 = .slice ma mn mc := hd ⟨33, .data⟩ (by simp) rfl
          rw [h33] at i33
          have h34 : vs 34 = .agg #[.int .i64 vy.op, .string vy.name, .slice vy.aw vy.nw vy.cw, .int .i64 vy.lo, .int .i64 vy.hi, .slice vy.aa vy.na vy.ca] := hd ⟨34, .data⟩ (by simp) rfl
          rw [h34] at i34
          clear hd
          unfold GivesOp
          go_simp
          refine (HC7.out W HW.out).mono ?_
          rintro e5 w5 ⟨rfl, hx5⟩
          exact ⟨_, rfl, hx5, HW.out.trans hx5, rfl⟩
        · have HG := Lib.hid hW
          have HW := Lib.hid (show Ext wz W from hW)
          have HQL := Lib.hid hqL
          clear hW hqL hcL
          cases ho
          clear hd
          have g9 := HW.out.cell b0
          unfold GivesOp
          go_simp
          exact ⟨Ext.refl _, HW.out, rfl⟩
        · have HG := Lib.hid hW
          have HW := Lib.hid (show Ext wz W from hW)
          have HQL := Lib.hid hqL
          clear hW hqL hcL
          cases ho
          clear hd
          unfold GivesOp
          go_simp
          exact ⟨Ext.refl _, HW.out, rfl⟩
        · have HG := Lib.hid hW
          have HW := Lib.hid (show Ext wz W from hW)
          have HQL := Lib.hid hqL
          clear hW hqL hcL
          cases ho
          clear hd
          have g0 := HW.out.cell y0
          have g1 := HW.out.cell y1
          have g2 := HW.out.cell y2
          have g3 := HW.out.cell y3
          have g4 := HW.out.cell y4
          have g5 := HW.out.cell y5
          unfold GivesOp
          go_simp
          exact ⟨Ext.refl _, HW.out, rfl⟩
        · have HG := Lib.hid hW
          have HW := Lib.hid (show Ext wz W from hW)
          have HQL := Lib.hid hqL
          clear hW hqL hcL
          cases ho
          have h36 : vs 36 = .agg #[.slice sa sn sc] := hd ⟨36, .data⟩ (by simp) rfl
          rw [h36] at i36
          have h37 : vs 37 = .slice ma mn mc := hd ⟨37, .data⟩ (by simp) rfl
          rw [h37] at i37
          have h38 : vs 38 = .agg #[.int .i64 vy.op, .string vy.name, .slice vy.aw vy.nw vy.cw, .int .i64 vy.lo, .int .i64 vy.hi, .slice vy.aa vy.na vy.ca] := hd ⟨38, .data⟩ (by simp) rfl
          rw [h38] at i38
          clear hd
          unfold GivesOp
          go_simp
          refine (HC8.out W HW.out).mono ?_
          rintro e5 w5 ⟨rfl, hx5⟩
          exact ⟨_, rfl, hx5, HW.out.trans hx5, rfl⟩
        · have HG := Lib.hid hW
          have HW := Lib.hid (show Ext wz W from hW)
          have HQL := Lib.hid hqL
          clear hW hqL hcL
          cases ho
          have h35 : vs 35 = .int .i64 E4 := hd ⟨35, .data⟩ (by simp) rfl
          rw [h35] at i35
          have h39 : vs 39 = .int .i64 E4 := hd ⟨39, .data⟩ (by simp) rfl
          rw [h39] at i39
          clear hd
          unfold GivesOp
          go_simp
          exact ⟨Ext.refl _, HW.out, rfl⟩
        · have HG := Lib.hid hW
          have HW := Lib.hid (show Ext wz W from hW)
          have HQL := Lib.hid hqL
          clear hW hqL hcL
          cases ho
          have h31 : vs 31 = .bool true := hd ⟨31, .data⟩ (by simp) rfl
          rw [h31] at i31
          have h40 : vs 40 = .bool true := hd ⟨40, .data⟩ (by simp) rfl
          rw [h40] at i40
          clear hd
          unfold GivesOp
          go_simp
          exact ⟨Ext.refl _, HW.out, rfl⟩
        · have HG := Lib.hid hW
          have HW := Lib.hid (show Ext wz W from hW)
          have HQL := Lib.hid hqL
          clear hW hqL hcL
          cases ho
          have h41 : vs 41 = .bool true := hd ⟨41, .data⟩ (by simp) rfl
          rw [h41] at i41
          clear hd
          unfold GivesOp
          go_simp
          exact ⟨Ext.refl _, HW.out, rfl⟩
        · have HG := Lib.hid hW
          have HW := Lib.hid (show Ext wz W from hW)
          have HQL := Lib.hid hqL
          clear hW hqL hcL
          cases ho
          clear hd
          unfold GivesOp
          go_simp
          refine (HAW.out W HW.out).mono ?_
          rintro e5 w5 ⟨rfl, hx5⟩
          exact ⟨_, rfl, hx5, HW.out.trans hx5, rfl⟩
        · have HG := Lib.hid hW
          have HW := Lib.hid (show Ext wz W from hW)
          have HQL := Lib.hid hqL
          clear hW hqL hcL
          cases ho
          have h42 : vs 42 = .bool true := hd ⟨42, .data⟩ (by simp) rfl
          rw [h42] at i42
          have h43 : vs 43 = .bool true := hd ⟨43, .data⟩ (by simp) rfl
          rw [h43] at i43
          clear hd
          unfold GivesOp
          go_simp
          exact ⟨Ext.refl _, HW.out, rfl⟩
        · have HG := Lib.hid hW
          have HW := Lib.hid (show Ext wz W from hW)
          have HQL := Lib.hid hqL
          clear hW hqL hcL
          cases ho
          have h44 : vs 44 = .bool true := hd ⟨44, .data⟩ (by simp) rfl
          rw [h44] at i44
          clear hd
          unfold GivesOp
          go_simp
          exact ⟨Ext.refl _, HW.out, rfl⟩
      intro L vs W hLm hW hR
      rw [if_pos (by decide +kernel)]
      have h45 : vs 45 = .bool true := hR 45 (by simp) (by omega)
      simp only [acts, dstAt, List.range, List.range.loop, List.foldl_cons, List.foldl_nil, h45]
      go_simp
      have hW2 : Ext wz W := hW
      clear hR hW hLm h45
      --END Y11
      go_wp2_with fail
      go_ret
      exact ⟨rfl, HXQ.out.trans hW2⟩
end Go.Proofs.YtfjlglefodndjaaGreatDoor
