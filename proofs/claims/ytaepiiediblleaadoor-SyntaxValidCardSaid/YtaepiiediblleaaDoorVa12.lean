/-
  Texts of the claim, joined: RTok4, RTok5, RTok6, Text1, Parse5.
-/
import Derived.Test.YtaepiiediblleaaDoorVa11
import Derived.Test.YtaepiiediblleaaDoorVa09
import Derived.Deep.DeepCutAuto
import Derived.Deep.LoopGhost
namespace Go.Proofs.YtaepiiediblleaaDoor
open Go.RowKit

def fIn (v : Value) (be : Nat) (l : List Tok) (name : ByteArray) (words : List ByteArray) (aw : Option Addr) (nw cw : Nat) : Nat → What
  | 0 => .val v
  | 1 => .val (.pointer (some ⟨be, 1, none⟩))
  | 2 => .val (.string name)
  | 3 => .val (tokV (nameT name))
  | 4 => .val (tokV (nameT wIn))
  | 5 => .val (tokV (markT 40))
  | 6 => .blk [nameT name, nameT wIn, markT 40]
  | 7 => .own (l ++ [nameT name, nameT wIn, markT 40])
  | 8 => .val (.pointer (some ⟨be, 2, none⟩))
  | 9 => .val (.slice aw nw cw)
  | 10 => .own (l ++ [nameT name, nameT wIn, markT 40] ++ listedT words)
  | 11 => .val (tokV (markT 41))
  | 12 => .blk [markT 41]
  | 13 => .own (l ++ [nameT name, nameT wIn, markT 40] ++ listedT words ++ [markT 41])
  | _ => .val undef

set_option maxRecDepth 100000 in
set_option maxHeartbeats 2000000 in
theorem tokens_in (e : Ex) (l : List Tok) (v : Value) (base : Nat) (w : World) (ev : Value) (he : IsEx (mask w (rowOf v)) e ev) (ho : OwnT w base l v) (hb : base ≤ w.heap.size) (hl : l.length + (tokE e).length ≤ 10000) (hop : e.op = 4) :
    Calls Tryd.prog 31 #[v, ev] w (TokQ base (l ++ tokE e) v w) := by
  obtain ⟨aw, nw, cw, aa, na, ca, rfl, hw, hna, hca, ha, hx⟩ := he.parts
  have HE := Lib.hid (show tokE e = [nameT e.name, nameT wIn, markT 40] ++ listedT e.words ++ [markT 41] by cases e; simp only [Ex.op] at hop; subst hop; simp [tokE, Ex.name, Ex.words])
  have hl1 : l.length + 3 + (listedT e.words).length + 1 ≤ 10000 := by rw [HE.out] at hl; simp at hl; omega
  have hl2 := listedT_ge e.words
  have hl3 : nw ≤ 10000 := by have := hw.1; omega
  have HX := Lib.hid ((Ext.refl w).alloc (.cells #[.int .i64 e.op, .string e.name, .slice aw nw cw, .int .i64 e.lo, .int .i64 e.hi, .slice aa na ca] 26))
  have HW := Lib.hid (hw.mono (HX.out.grew v).sub)
  have HO := Lib.hid (ho.ext HX.out)
  have HBX := Lib.hid (alloc_new w (.cells #[.int .i64 e.op, .string e.name, .slice aw nw cw, .int .i64 e.lo, .int .i64 e.hi, .slice aa na ca] 26))
  have HNR := Lib.hid (show w.heap.size ∉ rowOf v from fun h => by have := (ho.lt h).2; omega)
  have t1 : (e.op == 1) = false := by simp [hop]
  have t2 : (e.op == 2) = false := by simp [hop]
  have t3 : (e.op == 3) = false := by simp [hop]
  have t4 : (e.op == 4) = true := by simp [hop]
  clear hw hna hca ha hx he ho hl hop
  unfold exV
  go_enter Tryd.func31, Tryd.ntmps31
  go_wp2_with fail
  generalize w.alloc (.cells #[.int .i64 e.op, .string e.name, .slice aw nw cw, .int .i64 e.lo, .int .i64 e.hi, .slice aa na ca] 26) = wb at *
  have hz0 := HX.out.size
  refine wp_region_growL (m := 14) [13] (TokG [7, 10, 13] wb v) (TokE [7, 10, 13]) (TokR base wb v (fIn v w.heap.size l e.name e.words aw nw cw)) (by kernel_rfl) (by kernel_rfl) ⟨(Chg.refl _ _).drew, fun _ => (Ext.refl wb).drew⟩ (tokR_keeps (by kernel_rfl)) ?_ ?_
  · intro i o hi ho L vs W hiL hnc hG hd ρ hρ
    have hi' : i = 0 ∨ i = 1 ∨ i = 2 ∨ i = 3 ∨ i = 4 ∨ i = 5 ∨ i = 6 ∨ i = 7 ∨ i = 8 ∨ i = 9 ∨ i = 10 ∨ i = 11 ∨ i = 12 ∨ i = 13 := by omega
    clear hi
    have o0 : ρ (.tmp 0) = v := hρ.out 0 rfl
    have o3 : ρ (.tmp 3) = .pointer (some ⟨w.heap.size, 0, none⟩) := hρ.out 3 rfl
    have i1 := hρ.ins 1 33 (by omega) rfl (Nat.le_of_ble_eq_true rfl)
    have i2 := hρ.ins 2 34 (by omega) rfl (Nat.le_of_ble_eq_true rfl)
    have i3 := hρ.ins 3 35 (by omega) rfl (Nat.le_of_ble_eq_true rfl)
    have i4 := hρ.ins 4 36 (by omega) rfl (Nat.le_of_ble_eq_true rfl)
    have i5 := hρ.ins 5 37 (by omega) rfl (Nat.le_of_ble_eq_true rfl)
    have i0 := hρ.ins 0 32 (by omega) rfl (Nat.le_of_ble_eq_true rfl)
    have i6 := hρ.ins 6 38 (by omega) rfl (Nat.le_of_ble_eq_true rfl)
    have i8 := hρ.ins 8 40 (by omega) rfl (Nat.le_of_ble_eq_true rfl)
    have i7 := hρ.ins 7 39 (by omega) rfl (Nat.le_of_ble_eq_true rfl)
    have i9 := hρ.ins 9 41 (by omega) rfl (Nat.le_of_ble_eq_true rfl)
    have i11 := hρ.ins 11 43 (by omega) rfl (Nat.le_of_ble_eq_true rfl)
    have i10 := hρ.ins 10 42 (by omega) rfl (Nat.le_of_ble_eq_true rfl)
    have i12 := hρ.ins 12 44 (by omega) rfl (Nat.le_of_ble_eq_true rfl)
    have hcs := hρ.const
    have hfn := hρ.func
    clear hρ
    have hbW := hG.1.blk HBX.out HNR.out
    obtain ⟨b0, b1, b2, b3, b4, b5, bf⟩ := blk6 hbW
    have hwz := hG.1.size
    have HG := Lib.hid hG
    clear hG hbW
    rcases hi' with rfl | rfl | rfl | rfl | rfl | rfl | rfl | rfl | rfl | rfl | rfl | rfl | rfl | rfl
    · cases ho
      unfold GivesOp
      go_simp
      exact ⟨Or.inr (Ext.refl _), HG.out.ext (Ext.refl _) _, rfl⟩
    · cases ho
      unfold GivesOp
      go_simp
      exact ⟨Or.inr (Ext.refl _), HG.out.ext (Ext.refl _) _, rfl⟩
    · cases ho
      have h1 : vs 1 = _ := hd ⟨1, .data⟩ (by simp) rfl
      rw [h1] at i1
      unfold GivesOp
      go_simp
      exact ⟨Or.inr (Ext.refl _), HG.out.ext (Ext.refl _) _, rfl⟩
    · cases ho
      have h1 : vs 2 = _ := hd ⟨2, .data⟩ (by simp) rfl
      rw [h1] at i2
      unfold GivesOp
      go_simp
      refine (nameToken_calls _ _).mono ?_
      rintro q W' ⟨rfl, hx⟩
      exact ⟨_, rfl, Or.inr hx, HG.out.ext hx _, rfl⟩
    · cases ho
      unfold GivesOp
      go_simp
      refine (nameToken_calls _ _).mono ?_
      rintro q W' ⟨rfl, hx⟩
      exact ⟨_, rfl, Or.inr hx, HG.out.ext hx _, rfl⟩
    · cases ho
      unfold GivesOp
      go_simp
      refine (markToken_calls _ _).mono ?_
      rintro q W' ⟨rfl, hx⟩
      exact ⟨_, rfl, Or.inr hx, HG.out.ext hx _, rfl⟩
    · cases ho
      have h3 : vs 3 = _ := hd ⟨3, .data⟩ (by simp) rfl
      have h4 : vs 4 = _ := hd ⟨4, .data⟩ (by simp) rfl
      have h5 : vs 5 = _ := hd ⟨5, .data⟩ (by simp) rfl
      rw [h3] at i3
      rw [h4] at i4
      rw [h5] at i5
      unfold tokV nameT at i3 i4
      unfold tokV markT at i5
      unfold GivesOp
      go_simp
      exact ⟨Or.inr ((Ext.refl _).alloc _), HG.out.ext ((Ext.refl _).alloc _) _, W.heap.size, rfl, alloc_new W _⟩
    · cases ho
      have h0 : vs 0 = _ := hd ⟨0, .data⟩ (by simp) rfl
      obtain ⟨x0, h6, hx0⟩ := hd ⟨6, .data⟩ (by simp) rfl
      rw [h0] at i0
      rw [h6] at i6
      have hxW := HG.out.2 (tok_before (by decide +kernel) hiL hnc)
      refine gives_append_tok _ _ base v l _ i0 (HO.out.ext hxW) x0 i6 hx0 (by simp) (by simp; omega) (by omega) ?_
      intro u' w' ho' hg'
      exact ⟨Or.inl (by simp), TokG.grow (hxW.grew v) hg' (by simp), ho', (hxW.grew v).trans hg'⟩
    · cases ho
      unfold GivesOp
      go_simp
      exact ⟨Or.inr (Ext.refl _), HG.out.ext (Ext.refl _) _, rfl⟩
    · cases ho
      have h1 : vs 8 = _ := hd ⟨8, .data⟩ (by simp) rfl
      rw [h1] at i8
      unfold GivesOp
      go_simp
      exact ⟨Or.inr (Ext.refl _), HG.out.ext (Ext.refl _) _, rfl⟩
    · cases ho
      obtain ⟨ho7, hg7⟩ := hd ⟨7, .data⟩ (by simp) rfl
      have h9 : vs 9 = _ := hd ⟨9, .data⟩ (by simp) rfl
      rw [h9] at i9
      have HO7 := Lib.hid ho7
      have HG7 := Lib.hid hg7
      clear ho7 hg7
      generalize vs 7 = u7 at *
      unfold GivesOp
      go_simp
      refine (listed_calls e.words _ u7 base aw nw cw W HO7.out (HW.out.mono HG7.out.sub) (by omega) (by simp; omega) (by omega)).mono ?_
      rintro q W' ⟨u', rfl, ho', hg'⟩
      exact ⟨_, rfl, Or.inl (by simp), TokG.grow HG7.out hg' (by simp), ho', HG7.out.trans hg'⟩
    · cases ho
      unfold GivesOp
      go_simp
      refine (markToken_calls _ _).mono ?_
      rintro q W' ⟨rfl, hx⟩
      exact ⟨_, rfl, Or.inr hx, HG.out.ext hx _, rfl⟩
    · cases ho
      have h3 : vs 11 = _ := hd ⟨11, .data⟩ (by simp) rfl
      rw [h3] at i11
      unfold tokV markT at i11
      unfold GivesOp
      go_simp
      exact ⟨Or.inr ((Ext.refl _).alloc _), HG.out.ext ((Ext.refl _).alloc _) _, W.heap.size, rfl, alloc_new W _⟩
    · cases ho
      obtain ⟨ho7, hg7⟩ := hd ⟨10, .data⟩ (by simp) rfl
      obtain ⟨x0, h6, hx0⟩ := hd ⟨12, .data⟩ (by simp) rfl
      rw [h6] at i12
      refine gives_append_tok _ _ base (vs 10) _ _ i10 ho7 x0 i12 hx0 (by simp) (by simp; omega) (by omega) ?_
      intro u' w' ho' hg'
      exact ⟨Or.inl (by simp), TokG.grow hg7 hg' (by simp), ho', hg7.trans hg'⟩
  · intro L vs W _ hG hR
    rw [if_neg (by decide +kernel)]
    obtain ⟨ho', hg'⟩ := hR 13 (by simp) (by omega)
    have HO2 := Lib.hid ho'
    have HG2 := Lib.hid hg'
    clear hG hR ho' hg'
    unfold wpOp
    simp only [acts, dstAt, List.range, List.range.loop, List.foldl_cons, List.foldl_nil]
    go_simp
    refine Or.inl ?_
    go_wp2_with fail
    go_ret
    exact ⟨_, rfl, by rw [HE.out]; simpa using HO2.out, (HX.out.grew v).trans HG2.out⟩
end Go.Proofs.YtaepiiediblleaaDoor

namespace Go.Proofs.YtaepiiediblleaaDoor
open Go.RowKit

def btwT (name : ByteArray) (lo hi : Int) : List Tok := [nameT name, nameT wFrom, numT lo, nameT wTo, numT hi]
def fBtw (v : Value) (be : Nat) (l : List Tok) (name : ByteArray) (lo hi : Int) : Nat → What
  | 0 => .val v
  | 1 => .val (.pointer (some ⟨be, 1, none⟩))
  | 2 => .val (.string name)
  | 3 => .val (tokV (nameT name))
  | 4 => .val (tokV (nameT wFrom))
  | 5 => .val (.pointer (some ⟨be, 3, none⟩))
  | 6 => .val (.int .i64 lo)
  | 7 => .val (tokV (numT lo))
  | 8 => .val (tokV (nameT wTo))
  | 9 => .val (.pointer (some ⟨be, 4, none⟩))
  | 10 => .val (.int .i64 hi)
  | 11 => .val (tokV (numT hi))
  | 12 => .blk (btwT name lo hi)
  | 13 => .own (l ++ btwT name lo hi)
  | _ => .val undef

set_option maxRecDepth 100000 in
set_option maxHeartbeats 2000000 in
theorem tokens_btw (e : Ex) (l : List Tok) (v : Value) (base : Nat) (w : World) (ev : Value) (he : IsEx (mask w (rowOf v)) e ev) (ho : OwnT w base l v) (hb : base ≤ w.heap.size) (hl : l.length + (tokE e).length ≤ 10000) (hop : e.op = 5) :
    Calls Tryd.prog 31 #[v, ev] w (TokQ base (l ++ tokE e) v w) := by
  obtain ⟨aw, nw, cw, aa, na, ca, rfl, hw, hna, hca, ha, hx⟩ := he.parts
  have HE := Lib.hid (show tokE e = btwT e.name e.lo e.hi by cases e; simp only [Ex.op] at hop; subst hop; simp [tokE, btwT, Ex.name, Ex.lo, Ex.hi])
  have hl1 : l.length + 5 ≤ 10000 := by rw [HE.out] at hl; simp [btwT] at hl; omega
  have HX := Lib.hid ((Ext.refl w).alloc (.cells #[.int .i64 e.op, .string e.name, .slice aw nw cw, .int .i64 e.lo, .int .i64 e.hi, .slice aa na ca] 26))
  have HO := Lib.hid (ho.ext HX.out)
  have HBX := Lib.hid (alloc_new w (.cells #[.int .i64 e.op, .string e.name, .slice aw nw cw, .int .i64 e.lo, .int .i64 e.hi, .slice aa na ca] 26))
  have HNR := Lib.hid (show w.heap.size ∉ rowOf v from fun h => by have := (ho.lt h).2; omega)
  have t1 : (e.op == 1) = false := by simp [hop]
  have t2 : (e.op == 2) = false := by simp [hop]
  have t3 : (e.op == 3) = false := by simp [hop]
  have t4 : (e.op == 4) = false := by simp [hop]
  have t5 : (e.op == 5) = true := by simp [hop]
  clear hw hna hca ha hx he ho hl hop
  unfold exV
  go_enter Tryd.func31, Tryd.ntmps31
  go_wp2_with fail
  generalize w.alloc (.cells #[.int .i64 e.op, .string e.name, .slice aw nw cw, .int .i64 e.lo, .int .i64 e.hi, .slice aa na ca] 26) = wb at *
  have hz0 := HX.out.size
  refine wp_region_growL (m := 14) [13] (TokG [13] wb v) (TokE [13]) (TokR base wb v (fBtw v w.heap.size l e.name e.lo e.hi)) (by kernel_rfl) (by kernel_rfl) ⟨(Chg.refl _ _).drew, fun _ => (Ext.refl wb).drew⟩ (tokR_keeps (by kernel_rfl)) ?_ ?_
  · intro i o hi ho L vs W hiL hnc hG hd ρ hρ
    have hi' : i = 0 ∨ i = 1 ∨ i = 2 ∨ i = 3 ∨ i = 4 ∨ i = 5 ∨ i = 6 ∨ i = 7 ∨ i = 8 ∨ i = 9 ∨ i = 10 ∨ i = 11 ∨ i = 12 ∨ i = 13 := by omega
    clear hi
    have o0 : ρ (.tmp 0) = v := hρ.out 0 rfl
    have o3 : ρ (.tmp 3) = .pointer (some ⟨w.heap.size, 0, none⟩) := hρ.out 3 rfl
    have i0 := hρ.ins 0 48 (by omega) rfl (Nat.le_of_ble_eq_true rfl)
    have i1 := hρ.ins 1 49 (by omega) rfl (Nat.le_of_ble_eq_true rfl)
    have i2 := hρ.ins 2 50 (by omega) rfl (Nat.le_of_ble_eq_true rfl)
    have i3 := hρ.ins 3 51 (by omega) rfl (Nat.le_of_ble_eq_true rfl)
    have i4 := hρ.ins 4 52 (by omega) rfl (Nat.le_of_ble_eq_true rfl)
    have i5 := hρ.ins 5 53 (by omega) rfl (Nat.le_of_ble_eq_true rfl)
    have i6 := hρ.ins 6 54 (by omega) rfl (Nat.le_of_ble_eq_true rfl)
    have i7 := hρ.ins 7 55 (by omega) rfl (Nat.le_of_ble_eq_true rfl)
    have i8 := hρ.ins 8 56 (by omega) rfl (Nat.le_of_ble_eq_true rfl)
    have i9 := hρ.ins 9 57 (by omega) rfl (Nat.le_of_ble_eq_true rfl)
    have i10 := hρ.ins 10 58 (by omega) rfl (Nat.le_of_ble_eq_true rfl)
    have i11 := hρ.ins 11 59 (by omega) rfl (Nat.le_of_ble_eq_true rfl)
    have i12 := hρ.ins 12 60 (by omega) rfl (Nat.le_of_ble_eq_true rfl)
    have hcs := hρ.const
    have hfn := hρ.func
    clear hρ
    have hbW := hG.1.blk HBX.out HNR.out
    obtain ⟨b0, b1, b2, b3, b4, b5, bf⟩ := blk6 hbW
    have hwz := hG.1.size
    have HG := Lib.hid hG
    clear hG hbW
    rcases hi' with rfl | rfl | rfl | rfl | rfl | rfl | rfl | rfl | rfl | rfl | rfl | rfl | rfl | rfl
    · cases ho
      unfold GivesOp
      go_simp
      exact ⟨Or.inr (Ext.refl _), HG.out.ext (Ext.refl _) _, rfl⟩
    · cases ho
      unfold GivesOp
      go_simp
      exact ⟨Or.inr (Ext.refl _), HG.out.ext (Ext.refl _) _, rfl⟩
    · cases ho
      have h1 : vs 1 = _ := hd ⟨1, .data⟩ (by simp) rfl
      rw [h1] at i1
      unfold GivesOp
      go_simp
      exact ⟨Or.inr (Ext.refl _), HG.out.ext (Ext.refl _) _, rfl⟩
    · cases ho
      have h2 : vs 2 = _ := hd ⟨2, .data⟩ (by simp) rfl
      rw [h2] at i2
      unfold GivesOp
      go_simp
      refine (nameToken_calls _ _).mono ?_
      rintro q W' ⟨rfl, hx⟩
      exact ⟨_, rfl, Or.inr hx, HG.out.ext hx _, rfl⟩
    · cases ho
      unfold GivesOp
      go_simp
      refine (nameToken_calls _ _).mono ?_
      rintro q W' ⟨rfl, hx⟩
      exact ⟨_, rfl, Or.inr hx, HG.out.ext hx _, rfl⟩
    · cases ho
      unfold GivesOp
      go_simp
      exact ⟨Or.inr (Ext.refl _), HG.out.ext (Ext.refl _) _, rfl⟩
    · cases ho
      have h5 : vs 5 = _ := hd ⟨5, .data⟩ (by simp) rfl
      rw [h5] at i5
      unfold GivesOp
      go_simp
      exact ⟨Or.inr (Ext.refl _), HG.out.ext (Ext.refl _) _, rfl⟩
    · cases ho
      have h6 : vs 6 = _ := hd ⟨6, .data⟩ (by simp) rfl
      rw [h6] at i6
      unfold GivesOp
      go_simp
      refine (numberToken_calls _ _).mono ?_
      rintro q W' ⟨rfl, hx⟩
      exact ⟨_, rfl, Or.inr hx, HG.out.ext hx _, rfl⟩
    · cases ho
      unfold GivesOp
      go_simp
      refine (nameToken_calls _ _).mono ?_
      rintro q W' ⟨rfl, hx⟩
      exact ⟨_, rfl, Or.inr hx, HG.out.ext hx _, rfl⟩
    · cases ho
      unfold GivesOp
      go_simp
      exact ⟨Or.inr (Ext.refl _), HG.out.ext (Ext.refl _) _, rfl⟩
    · cases ho
      have h9 : vs 9 = _ := hd ⟨9, .data⟩ (by simp) rfl
      rw [h9] at i9
      unfold GivesOp
      go_simp
      exact ⟨Or.inr (Ext.refl _), HG.out.ext (Ext.refl _) _, rfl⟩
    · cases ho
      have h10 : vs 10 = _ := hd ⟨10, .data⟩ (by simp) rfl
      rw [h10] at i10
      unfold GivesOp
      go_simp
      refine (numberToken_calls _ _).mono ?_
      rintro q W' ⟨rfl, hx⟩
      exact ⟨_, rfl, Or.inr hx, HG.out.ext hx _, rfl⟩
    · cases ho
      have h3 : vs 3 = _ := hd ⟨3, .data⟩ (by simp) rfl
      rw [h3] at i3
      have h4 : vs 4 = _ := hd ⟨4, .data⟩ (by simp) rfl
      rw [h4] at i4
      have h7 : vs 7 = _ := hd ⟨7, .data⟩ (by simp) rfl
      rw [h7] at i7
      have h8 : vs 8 = _ := hd ⟨8, .data⟩ (by simp) rfl
      rw [h8] at i8
      have h11 : vs 11 = _ := hd ⟨11, .data⟩ (by simp) rfl
      rw [h11] at i11
      unfold tokV nameT at i3 i4 i8
      unfold tokV numT at i7 i11
      unfold GivesOp
      go_simp
      exact ⟨Or.inr ((Ext.refl _).alloc _), HG.out.ext ((Ext.refl _).alloc _) _, W.heap.size, rfl, alloc_new W _⟩
    · cases ho
      have h0 : vs 0 = _ := hd ⟨0, .data⟩ (by simp) rfl
      obtain ⟨x0, h6, hx0⟩ := hd ⟨12, .data⟩ (by simp) rfl
      rw [h0] at i0
      rw [h6] at i12
      have hxW := HG.out.2 (tok_before (by decide +kernel) hiL hnc)
      refine gives_append_tok _ _ base v l _ i0 (HO.out.ext hxW) x0 i12 hx0 (by simp [btwT]) (by simp [btwT]; omega) (by omega) ?_
      intro u' w' ho' hg'
      exact ⟨Or.inl (by simp), TokG.grow (hxW.grew v) hg' (by simp), ho', (hxW.grew v).trans hg'⟩
  · intro L vs W _ hG hR
    rw [if_neg (by decide +kernel)]
    obtain ⟨ho', hg'⟩ := hR 13 (by simp) (by omega)
    have HO2 := Lib.hid ho'
    have HG2 := Lib.hid hg'
    clear hG hR ho' hg'
    unfold wpOp
    simp only [acts, dstAt, List.range, List.range.loop, List.foldl_cons, List.foldl_nil]
    go_simp
    refine Or.inl ?_
    go_wp2_with fail
    go_ret
    exact ⟨_, rfl, by rw [HE.out]; simpa using HO2.out, (HX.out.grew v).trans HG2.out⟩
end Go.Proofs.YtaepiiediblleaaDoor

namespace Go.Proofs.YtaepiiediblleaaDoor
open Go.RowKit

theorem tokE_eq0 (e : Ex) : tokE e = if e.op = 1 then [nameT wTrue] else if e.op = 2 then [nameT wFalse] else if e.op = 3 then [nameT e.name] else
    if e.op = 4 then [nameT e.name, nameT wIn, markT 40] ++ listedT e.words ++ [markT 41] else
    if e.op = 5 then [nameT e.name, nameT wFrom, numT e.lo, nameT wTo, numT e.hi] else
    (if e.op = 6 then [nameT wNot] else []) ++ tokArgs e.op e.args := by cases e; rw [tokE]; rfl
def wordOf (op : Int) : ByteArray := if op = 7 then wAnd else wOr
def preT (op : Int) : List Tok := if op = 6 then [nameT wNot] else []
/-- What tokens does for expressions of at most a size. -/
def TokensDo (m : Nat) : Prop := ∀ (e : Ex) (l : List Tok) (v : Value) (base : Nat) (w : World) (ev : Value), e.size ≤ m → IsEx (mask w (rowOf v)) e ev → OwnT w base l v → base ≤ w.heap.size → l.length + (tokE e).length ≤ 10000 → Calls Tryd.prog 31 #[v, ev] w (TokQ base (l ++ tokE e) v w)
def fPar (u : Value) (ev : Value) (l : List Tok) (a : Ex) : Nat → What
  | 0 => .val u
  | 1 => .val (tokV (markT 40))
  | 2 => .blk [markT 40]
  | 3 => .own (l ++ [markT 40])
  | 4 => .val ev
  | 5 => .own (l ++ [markT 40] ++ tokE a)
  | 6 => .val (tokV (markT 41))
  | 7 => .blk [markT 41]
  | 8 => .own (l ++ [markT 40] ++ tokE a ++ [markT 41])
  | _ => .val undef
theorem Grew.notMem {w w' : World} {v v' : Value} (h : Grew w v w' v') {k : Nat} (hk : k < w.heap.size) (hn : k ∉ rowOf v) : k ∉ rowOf v' := fun hm => by
  rcases h.2 k (mem_rowOf.1 hm) with h1 | h1
  · exact hn (mem_rowOf.2 h1)
  · omega
theorem wordOf_len (op : Int) : (nameT (wordOf op)) = nameT (if op = 7 then wAnd else wOr) := rfl

set_option maxRecDepth 100000 in
set_option maxHeartbeats 4000000 in
theorem tokens_args (m : Nat) (ih : TokensDo m) (e : Ex) (l : List Tok) (v : Value) (base : Nat) (w : World) (ev : Value) (hm : e.size ≤ m + 1) (hMM : m ≤ 1000000000) (he : IsEx (mask w (rowOf v)) e ev) (ho : OwnT w base l v) (hb : base ≤ w.heap.size) (hl : l.length + (tokE e).length ≤ 10000) (hop : e.op ≠ 1 ∧ e.op ≠ 2 ∧ e.op ≠ 3 ∧ e.op ≠ 4 ∧ e.op ≠ 5) :
    Calls Tryd.prog 31 #[v, ev] w (TokQ base (l ++ tokE e) v w) := by
  obtain ⟨aw, nw, cw, aa, na, ca, rfl, hw, hna, hca, ha, hx⟩ := he.parts
  have HE := Lib.hid (show tokE e = preT e.op ++ tokArgs e.op e.args by rw [tokE_eq0, if_neg hop.1, if_neg hop.2.1, if_neg hop.2.2.1, if_neg hop.2.2.2.1, if_neg hop.2.2.2.2]; rfl)
  have HLL := Lib.hid (show l.length + ((preT e.op).length + (tokArgs e.op e.args).length) ≤ 10000 by rw [HE.out, List.length_append] at hl; exact hl)
  have hll1 : l.length ≤ 10000 := by omega
  have HX := Lib.hid ((Ext.refl w).alloc (.cells #[.int .i64 e.op, .string e.name, .slice aw nw cw, .int .i64 e.lo, .int .i64 e.hi, .slice aa na ca] 26))
  have HO := Lib.hid (ho.ext HX.out)
  have HXS := Lib.hid (ExsD.mono (HX.out.grew v).sub e.args aa hx)
  have HBX := Lib.hid (alloc_new w (.cells #[.int .i64 e.op, .string e.name, .slice aw nw cw, .int .i64 e.lo, .int .i64 e.hi, .slice aa na ca] 26))
  have HNR := Lib.hid (show w.heap.size ∉ rowOf v from fun h => by have := (ho.lt h).2; omega)
  have HNA := Lib.hid hna
  have IH := Lib.hid ih
  have hS : e.size = 1 + sizes e.args := e.size_eq
  have hb2 : sizes e.args ≤ m := by omega
  have hla := length_le_sizes e.args
  have hna2 : na ≤ 1000000000 := by omega
  have t1 : (e.op == 1) = false := by simp [hop.1]
  have t2 : (e.op == 2) = false := by simp [hop.2.1]
  have t3 : (e.op == 3) = false := by simp [hop.2.2.1]
  have t4 : (e.op == 4) = false := by simp [hop.2.2.2.1]
  have t5 : (e.op == 5) = false := by simp [hop.2.2.2.2]
  clear hw hna hca ha hx he ho hl hop hS hm hla ih
  unfold exV
  go_enter Tryd.func31, Tryd.ntmps31
  go_upto_if 64 with fail
  generalize w.alloc (.cells #[.int .i64 e.op, .string e.name, .slice aw nw cw, .int .i64 e.lo, .int .i64 e.hi, .slice aa na ca] 26) = wb at *
  obtain ⟨b0, b1, b2, b3, b4, b5, bf⟩ := blk6 HBX.out
  have hz0 := HX.out.size
  go_cut [5] (fun s5 wx => s5 = .string (wordOf e.op) ∧ wb = wx)
  case first =>
    by_cases h7 : e.op = 7
    · have t7 : (e.op == 7) = true := by simp [h7]
      have HWD := Lib.hid (show wordOf e.op = wAnd by rw [wordOf, if_pos h7])
      clear h7
      go_wp2_with fail
      go_meet
      case rel => exact ⟨by rw [HWD.out]; rfl, rfl⟩
    · have t7 : (e.op == 7) = false := by simp [h7]
      have HWD := Lib.hid (show wordOf e.op = wOr by rw [wordOf, if_neg h7])
      clear h7
      go_wp2_with fail
      go_meet
      case rel => exact ⟨by rw [HWD.out]; rfl, rfl⟩
  case rest =>
  obtain ⟨rfl, rfl⟩ := hcut
  go_upto_if 67 with fail
  go_cut [0] (fun s0 wx => OwnT wx base (l ++ preT e.op) s0 ∧ Grew wb v wx s0)
  case first =>
    by_cases h6 : e.op = 6
    · have t6 : (e.op == 6) = true := by simp [h6]
      have HPR := Lib.hid (show preT e.op = [nameT wNot] by rw [preT, if_pos h6])
      clear h6
      go_wp2_with fail
      refine (nameToken_calls _ _).mono ?_
      rintro r w1 ⟨rfl, hx1⟩
      have HOW := Lib.hid (HO.out.ext hx1)
      have HGW := Lib.hid (hx1.grew v)
      have hz1 := hx1.size
      clear hx1 b0 b1 b2 b3 b4 b5 bf
      simp only [tokV, nameT]
      go_wp2_with (at_builtin; refine wpList_append_tok rfl _ _ rfl base _ _ [nameT wNot] rfl HOW.out _ 1 1 rfl ?c0 ?c1 rfl ?c2 ?c3 ?c4 ?_)
      case c0 => rfl
      case c1 => rfl
      case c2 => omega
      case c3 => omega
      case c4 => omega
      intro v2 w2 hown2 hgrow2
      have HO1 := Lib.hid (show OwnT w2 base (l ++ preT e.op) v2 by rw [HPR.out]; exact hown2)
      have HG1 := Lib.hid (HGW.out.trans hgrow2)
      clear hown2 hgrow2 HOW HGW
      go_wp2_with fail
      go_meet
      case rel => exact ⟨HO1.out, HG1.out⟩
    · have t6 : (e.op == 6) = false := by simp [h6]
      have HPR := Lib.hid (show preT e.op = [] by rw [preT, if_neg h6])
      clear h6
      go_wp2_with fail
      go_meet
      case rel => exact ⟨by rw [HPR.out, List.append_nil]; exact HO.out, Grew.refl _ v⟩
  case rest =>
  obtain ⟨hcut1, hcut2⟩ := hcut
  have HO1 := Lib.hid hcut1
  have HG1 := Lib.hid hcut2
  clear hcut1 hcut2 b0 b1 b2 b3 b4 b5 bf
  have hz1 := HG1.out.1.size
  go_wp2_with fail
  go_loopg [0, 6] na (fun g u i wr => ∃ k : Nat, k ≤ na ∧ g = na - k ∧ i = .int .i64 k ∧ OwnT wr base (l ++ preT e.op ++ tokArgs e.op (e.args.take k)) u ∧ Grew wb v wr u)
  case atStart => exact ⟨0, by omega, rfl, rfl, by simpa [tokArgs] using HO1.out, HG1.out⟩
  case round =>
    clear HO1 HG1 t1 t2 t3 t4 t5 hz1
    obtain ⟨k, hk, hgk, rfl, ho, hg⟩ := hrel
    have HGN := Lib.hid hgk
    have HOk := Lib.hid ho
    have HGk := Lib.hid hg
    have hbx := hg.1.blk HBX.out HNR.out
    have hbl := blk_lt hbx
    have hbn := hg.notMem (blk_lt HBX.out) HNR.out
    obtain ⟨b0, b1, b2, b3, b4, b5, bf⟩ := blk6 hbx
    have HBk := Lib.hid hbx
    have HBN := Lib.hid hbn
    have hzk := hg.1.size
    clear ho hg hbx hbn hgk
    by_cases hlt : k < na
    · have hlt' : k < e.args.length := by have := HNA.out; omega
      have t1 : decide ((k : Int) < (na : Int)) = true := by simp; omega
      obtain ⟨bb, off, rfl, aw1, nw1, cw1, aa1, na1, ca1, h0, h1, h2, h3, h4, h5, h6⟩ := ExsD.at e.args _ (ExsD.mono HGk.out.sub e.args _ HXS.out) k hlt'
      have H6 := Lib.hid h6
      replace h0 := mask_in h0
      replace h1 := mask_in h1
      replace h2 := mask_in h2
      replace h3 := mask_in h3
      replace h4 := mask_in h4
      replace h5 := mask_in h5
      have hsz := sizes_take_succ e.args k hlt'
      have hsl := sizes_take_le e.args (k + 1)
      have hk1 : e.args[k].size ≤ m := by omega
      have HSN := Lib.hid (show tokArgs e.op (e.args.take (k + 1)) = tokArgs e.op (e.args.take k) ++ ((if k = 0 then [] else [nameT (wordOf e.op)]) ++ argT e.op e.args[k]) by
        have e1 : e.args.take (k + 1) = e.args.take k ++ [e.args[k]] := by simp
        rw [e1, tokArgs_snoc, List.length_take, Nat.min_eq_left (by omega)]; rfl)
      have HTL := Lib.hid (tokArgs_take e.op e.args (k + 1))
      have HLEN := Lib.hid (show (l ++ preT e.op ++ tokArgs e.op (e.args.take k)).length + (if k = 0 then 0 else 1) + (argT e.op e.args[k]).length ≤ 10000 by
        have a1 := HTL.out
        have a2 := HLL.out
        rw [HSN.out] at a1
        simp only [List.length_append] at a1 ⊢
        by_cases hk0 : k = 0
        · rw [if_pos hk0] at a1 ⊢; simp only [List.length_nil] at a1; omega
        · rw [if_neg hk0] at a1 ⊢; simp only [List.length_cons, List.length_nil] at a1; omega)
      clear h6 hsz hsl
      go_upto_if 85 with fail
      have HXA := Lib.hid ((Ext.refl wr).alloc (.cells #[.int .i64 e.args[k].op, .string e.args[k].name, .slice aw1 nw1 cw1, .int .i64 e.args[k].lo, .int .i64 e.args[k].hi, .slice aa1 na1 ca1] 26))
      have HBA := Lib.hid (alloc_new wr (.cells #[.int .i64 e.args[k].op, .string e.args[k].name, .slice aw1 nw1 cw1, .int .i64 e.args[k].lo, .int .i64 e.args[k].hi, .slice aa1 na1 ca1] 26))
      have hza : (wr.alloc (.cells #[.int .i64 e.args[k].op, .string e.args[k].name, .slice aw1 nw1 cw1, .int .i64 e.args[k].lo, .int .i64 e.args[k].hi, .slice aa1 na1 ca1] 26)).heap.size = wr.heap.size + 1 := by simp
      have HZA := Lib.hid hza
      clear h0 h1 h2 h3 h4 h5 b0 b1 b2 b3 b4 b5 bf hza
      generalize wr.alloc (.cells #[.int .i64 e.args[k].op, .string e.args[k].name, .slice aw1 nw1 cw1, .int .i64 e.args[k].lo, .int .i64 e.args[k].hi, .slice aa1 na1 ca1] 26) = wa at *
      have HOA := Lib.hid (HOk.out.ext HXA.out)
      have HGA := Lib.hid (HGk.out.trans (HXA.out.grew _))
      have H6A := Lib.hid (H6.out.mono (HXA.out.grew _).sub)
      have HNRA := Lib.hid (show wr.heap.size ∉ rowOf u0 from fun h => by have := (HOk.out.lt h).2; omega)
      have hza : wr.heap.size + 1 = wa.heap.size := HZA.out.symm
      have hzb : wb.heap.size ≤ wa.heap.size := HGA.out.1.size
      clear HOk HGk H6
      obtain ⟨L, hL⟩ : ∃ L, L = l ++ preT e.op ++ tokArgs e.op (e.args.take k) := ⟨_, rfl⟩
      rw [← hL] at HOA HLEN
      have HL := Lib.hid hL
      clear hL
      have hLEN : L.length + (if k = 0 then 0 else 1) + (argT e.op e.args[k]).length ≤ 10000 := HLEN.out
      have hLEN1 : L.length + (argT e.op e.args[k]).length ≤ 10000 := by omega
      have HLEN2 := Lib.hid hLEN
      clear hLEN
      go_cut [0] (fun s0 wx => OwnT wx base (L ++ (if k = 0 then [] else [nameT (wordOf e.op)])) s0 ∧ Grew wa u0 wx s0)
      case first =>
        by_cases hk0 : k = 0
        · have HK0 := Lib.hid hk0
          have t2 : decide (0 < (k : Int)) = false := by simp; omega
          have t3 : decide (0 < k) = false := by simp; omega
          have p0 : ¬ 0 < k := by omega
          clear hk0
          go_wp2_with fail
          go_meet
          case rel => exact ⟨by rw [if_pos HK0.out, List.append_nil]; exact HOA.out, Grew.refl _ _⟩
        · have HK0 := Lib.hid hk0
          have t2 : decide (0 < (k : Int)) = true := by simp; omega
          have t3 : decide (0 < k) = true := by simp; omega
          have p0 : 0 < k := by omega
          clear hk0
          go_wp2_with fail
          refine (nameToken_calls _ _).mono ?_
          rintro r w1 ⟨rfl, hx1⟩
          have HOW := Lib.hid (HOA.out.ext hx1)
          have HGW := Lib.hid (hx1.grew u0)
          have hz1 := hx1.size
          clear hx1
          simp only [tokV, nameT]
          go_wp2_with (at_builtin; refine wpList_append_tok rfl _ _ rfl base _ _ [nameT (wordOf e.op)] rfl HOW.out _ 1 1 rfl ?c0 ?c1 rfl ?c2 ?c3 ?c4 ?_)
          case c0 => rfl
          case c1 => rfl
          case c2 => omega
          case c3 => omega
          case c4 => omega
          intro v2 w2 hown2 hgrow2
          have HO1 := Lib.hid (show OwnT w2 base (L ++ (if k = 0 then [] else [nameT (wordOf e.op)])) v2 by rw [if_neg HK0.out]; exact hown2)
          have HG1 := Lib.hid (HGW.out.trans hgrow2)
          clear hown2 hgrow2 HOW HGW
          go_wp2_with fail
          go_meet
          case rel => exact ⟨HO1.out, HG1.out⟩
      case rest =>
      obtain ⟨hcut1, hcut2⟩ := hcut
      have hbC := hcut2.1.blk HBA.out HNRA.out
      have hblC := blk_lt hbC
      have HNRC := Lib.hid (hcut2.notMem (by omega) HNRA.out)
      have hbE := (HGA.out.trans hcut2).1.blk HBX.out HNR.out
      obtain ⟨a0, a1, a2, a3, a4, a5, af⟩ := blk6 hbC
      obtain ⟨b0, b1, b2, b3, b4, b5, bf⟩ := blk6 hbE
      have HBC := Lib.hid hbC
      have HBE := Lib.hid hbE
      have HO2 := Lib.hid hcut1
      have HG2 := Lib.hid hcut2
      have hzc := hcut2.1.size
      have H6C := Lib.hid (H6A.out.mono hcut2.sub)
      have HLL2 := Lib.hid (show (L ++ (if k = 0 then [] else [nameT (wordOf e.op)])).length + (argT e.op e.args[k]).length ≤ 10000 by
        have := HLEN2.out
        rw [List.length_append]
        by_cases hk0 : k = 0
        · rw [if_pos hk0] at this ⊢; simp only [List.length_nil]; omega
        · rw [if_neg hk0] at this ⊢; simp only [List.length_cons, List.length_nil]; omega)
      clear hcut1 hcut2 hbC hbE H6A HOA
      obtain ⟨L2, hL2⟩ : ∃ L2, L2 = L ++ (if k = 0 then [] else [nameT (wordOf e.op)]) := ⟨_, rfl⟩
      rw [← hL2] at HO2 HLL2
      have HL2 := Lib.hid hL2
      clear hL2
      go_upto_region 23 with fail
      go_cut [103] (fun s103 wx => s103 = .bool (paren e.op e.args[k].op) ∧ wc = wx)
      case first =>
        by_cases c8 : e.args[k].op = 8
        · have t8 : (e.args[k].op == 8) = true := by simp [c8]
          have HP := Lib.hid (show paren e.op e.args[k].op = true by simp [paren, c8])
          clear c8
          go_wp2_with fail
          go_meet
          case rel => exact ⟨by rw [HP.out], rfl⟩
        · have t8 : (e.args[k].op == 8) = false := by simp [c8]
          by_cases c7 : e.args[k].op = 7
          · have t7 : (e.args[k].op == 7) = true := by simp [c7]
            by_cases ce : e.op = 8
            · have te : (e.op != 8) = false := by simp [ce]
              have HP := Lib.hid (show paren e.op e.args[k].op = false by simp [paren, c8, ce])
              clear c8 c7 ce
              go_wp2_with fail
              go_meet
              case rel => exact ⟨by rw [HP.out], rfl⟩
            · have te : (e.op != 8) = true := by simp [ce]
              have HP := Lib.hid (show paren e.op e.args[k].op = true by simp [paren, c7, ce])
              clear c8 c7 ce
              go_wp2_with fail
              go_meet
              case rel => exact ⟨by rw [HP.out], rfl⟩
          · have t7 : (e.args[k].op == 7) = false := by simp [c7]
            have HP := Lib.hid (show paren e.op e.args[k].op = false by simp [paren, c8, c7])
            clear c8 c7
            go_wp2_with fail
            go_meet
            case rel => exact ⟨by rw [HP.out], rfl⟩
      case rest =>
      obtain ⟨rfl, rfl⟩ := hcut
      cases hp : paren e.op e.args[k].op with
      | true =>
        have HAT := Lib.hid (show argT e.op e.args[k] = [markT 40] ++ tokE e.args[k] ++ [markT 41] by rw [argT, if_pos hp])
        have hl2 : L2.length + 2 + (tokE e.args[k]).length ≤ 10000 := by have := HLL2.out; rw [HAT.out] at this; simp at this; omega
        clear hp b0 b1 b2 b3 b4 b5 bf a0 a1 a2 a3 a4 a5 af
        go_wp2_with fail
        refine wp_region_growL (m := 9) [8] (TokG [3, 5, 8] wc u0) (TokE [3, 5, 8]) (TokR base wc u0 (fPar u0 (exV e.args[k].op e.args[k].name aw1 nw1 cw1 e.args[k].lo e.args[k].hi aa1 na1 ca1) L2 e.args[k])) (by kernel_rfl) (by kernel_rfl) ⟨(Chg.refl _ _).drew, fun _ => (Ext.refl wc).drew⟩ (tokR_keeps (by kernel_rfl)) ?_ ?_
        · intro i o hi ho L vs W hiL hnc hG hd ρ hρ
          have hi' : i = 0 ∨ i = 1 ∨ i = 2 ∨ i = 3 ∨ i = 4 ∨ i = 5 ∨ i = 6 ∨ i = 7 ∨ i = 8 := by omega
          clear hi
          have o0 : ρ (.tmp 0) = u0 := hρ.out 0 rfl
          have o7 : ρ (.tmp 7) = .pointer (some ⟨wr.heap.size, 0, none⟩) := hρ.out 7 rfl
          have i0 := hρ.ins 0 104 (by omega) rfl (Nat.le_of_ble_eq_true rfl)
          have i1 := hρ.ins 1 105 (by omega) rfl (Nat.le_of_ble_eq_true rfl)
          have i2 := hρ.ins 2 106 (by omega) rfl (Nat.le_of_ble_eq_true rfl)
          have i3 := hρ.ins 3 107 (by omega) rfl (Nat.le_of_ble_eq_true rfl)
          have i4 := hρ.ins 4 108 (by omega) rfl (Nat.le_of_ble_eq_true rfl)
          have i5 := hρ.ins 5 109 (by omega) rfl (Nat.le_of_ble_eq_true rfl)
          have i6 := hρ.ins 6 110 (by omega) rfl (Nat.le_of_ble_eq_true rfl)
          have i7 := hρ.ins 7 111 (by omega) rfl (Nat.le_of_ble_eq_true rfl)
          have hcs := hρ.const
          have hfn := hρ.func
          clear hρ
          have hbW := hG.1.blk HBC.out HNRC.out
          obtain ⟨a0, a1, a2, a3, a4, a5, af⟩ := blk6 hbW
          have hwz := hG.1.size
          have HG := Lib.hid hG
          clear hG hbW
          rcases hi' with rfl | rfl | rfl | rfl | rfl | rfl | rfl | rfl | rfl
          · cases ho
            unfold GivesOp
            go_simp
            exact ⟨Or.inr (Ext.refl _), HG.out.ext (Ext.refl _) _, rfl⟩
          · cases ho
            unfold GivesOp
            go_simp
            refine (markToken_calls _ _).mono ?_
            rintro q W' ⟨rfl, hx⟩
            exact ⟨_, rfl, Or.inr hx, HG.out.ext hx _, rfl⟩
          · cases ho
            have h1 : vs 1 = _ := hd ⟨1, .data⟩ (by simp) rfl
            rw [h1] at i1
            unfold tokV markT at i1
            unfold GivesOp
            go_simp
            exact ⟨Or.inr ((Ext.refl _).alloc _), HG.out.ext ((Ext.refl _).alloc _) _, W.heap.size, rfl, alloc_new W _⟩
          · cases ho
            have h0 : vs 0 = _ := hd ⟨0, .data⟩ (by simp) rfl
            obtain ⟨x0, h6, hx0⟩ := hd ⟨2, .data⟩ (by simp) rfl
            rw [h0] at i0
            rw [h6] at i2
            have hxW := HG.out.2 (tok_before (by decide +kernel) hiL hnc)
            refine gives_append_tok _ _ base u0 L2 _ i0 (HO2.out.ext hxW) x0 i2 hx0 (by simp) (by simp; omega) (by omega) ?_
            intro u' w' ho' hg'
            exact ⟨Or.inl (by simp), TokG.grow (hxW.grew u0) hg' (by simp), ho', (hxW.grew u0).trans hg'⟩
          · cases ho
            unfold GivesOp
            go_simp
            exact ⟨Or.inr (Ext.refl _), HG.out.ext (Ext.refl _) _, rfl⟩
          · cases ho
            obtain ⟨ho7, hg7⟩ := hd ⟨3, .data⟩ (by simp) rfl
            have h9 : vs 4 = _ := hd ⟨4, .data⟩ (by simp) rfl
            rw [h9] at i4
            have HO7 := Lib.hid ho7
            have HG7 := Lib.hid hg7
            clear ho7 hg7
            generalize vs 3 = u7 at *
            unfold GivesOp
            go_simp
            refine (IH.out e.args[k] _ u7 base W _ hk1 (H6C.out.mono HG7.out.sub) HO7.out (by omega) (by simp; omega)).mono ?_
            rintro q W' ⟨u', rfl, ho', hg'⟩
            exact ⟨_, rfl, Or.inl (by simp), TokG.grow HG7.out hg' (by simp), ho', HG7.out.trans hg'⟩
          · cases ho
            unfold GivesOp
            go_simp
            refine (markToken_calls _ _).mono ?_
            rintro q W' ⟨rfl, hx⟩
            exact ⟨_, rfl, Or.inr hx, HG.out.ext hx _, rfl⟩
          · cases ho
            have h6 : vs 6 = _ := hd ⟨6, .data⟩ (by simp) rfl
            rw [h6] at i6
            unfold tokV markT at i6
            unfold GivesOp
            go_simp
            exact ⟨Or.inr ((Ext.refl _).alloc _), HG.out.ext ((Ext.refl _).alloc _) _, W.heap.size, rfl, alloc_new W _⟩
          · cases ho
            obtain ⟨ho7, hg7⟩ := hd ⟨5, .data⟩ (by simp) rfl
            obtain ⟨x0, h6, hx0⟩ := hd ⟨7, .data⟩ (by simp) rfl
            rw [h6] at i7
            refine gives_append_tok _ _ base (vs 5) _ _ i5 ho7 x0 i7 hx0 (by simp) (by simp; omega) (by omega) ?_
            intro u' w' ho' hg'
            exact ⟨Or.inl (by simp), TokG.grow hg7 hg' (by simp), ho', hg7.trans hg'⟩
        · intro L' vs W _ hG hR
          rw [if_neg (by decide +kernel)]
          obtain ⟨ho', hg'⟩ := hR 8 (by simp) (by omega)
          have HO3 := Lib.hid ho'
          have HG3 := Lib.hid ((HGA.out.trans HG2.out).trans hg')
          clear hG hR ho' hg'
          unfold wpOp
          simp only [acts, dstAt, List.range, List.range.loop, List.foldl_cons, List.foldl_nil]
          go_simp
          refine Or.inl ?_
          go_wp2_with fail
          go_roundg (na - (k + 1))
          case measure => have := HGN.out; omega
          case rel => exact ⟨k + 1, by omega, rfl, by go_num, by rw [HSN.out, HAT.out, ← List.append_assoc, ← List.append_assoc, ← HL.out, ← HL2.out]; simpa using HO3.out, HG3.out⟩
      | false =>
        have HAT := Lib.hid (show argT e.op e.args[k] = tokE e.args[k] by rw [argT, if_neg (by simp [hp])])
        have hl2 : L2.length + (tokE e.args[k]).length ≤ 10000 := by have := HLL2.out; rw [HAT.out] at this; omega
        clear hp b0 b1 b2 b3 b4 b5 bf
        go_wp2_with fail
        refine (IH.out e.args[k] L2 _ base _ _ hk1 H6C.out HO2.out (by omega) hl2).mono ?_
        rintro r w1 ⟨u', rfl, ho', hg'⟩
        have HO3 := Lib.hid ho'
        have HG3 := Lib.hid ((HGA.out.trans HG2.out).trans hg')
        clear ho' hg' a0 a1 a2 a3 a4 a5 af
        go_wp2_with fail
        go_roundg (na - (k + 1))
        case measure => have := HGN.out; omega
        case rel => exact ⟨k + 1, by omega, rfl, by go_num, by rw [HSN.out, HAT.out, ← List.append_assoc, ← List.append_assoc, ← HL.out, ← HL2.out]; exact HO3.out, HG3.out⟩
    · have HE2 := Lib.hid (show e.args.take k = e.args from List.take_of_length_le (by have := HNA.out; omega))
      have t1 : decide ((k : Int) < (na : Int)) = false := by simp; omega
      go_wp2_with fail
      go_ret
      exact ⟨_, rfl, by rw [HE.out, ← List.append_assoc]; rw [HE2.out] at HOk; exact HOk.out, (HX.out.grew v).trans HGk.out⟩

theorem tokens_calls (m : Nat) : m ≤ 1000000000 → TokensDo m := by
  induction m with
  | zero => intro _ e l v base w ev h; have := size_pos e; omega
  | succ m ih =>
    intro hm e l v base w ev hs he ho hb hl
    by_cases h1 : e.op = 1
    · exact tokens_true e l v base w ev he ho hb hl h1
    by_cases h2 : e.op = 2
    · exact tokens_false e l v base w ev he ho hb hl h2
    by_cases h3 : e.op = 3
    · exact tokens_name e l v base w ev he ho hb hl h3
    by_cases h4 : e.op = 4
    · exact tokens_in e l v base w ev he ho hb hl h4
    by_cases h5 : e.op = 5
    · exact tokens_btw e l v base w ev he ho hb hl h5
    exact tokens_args m (ih (by omega)) e l v base w ev hs (by omega) he ho hb hl ⟨h1, h2, h3, h4, h5⟩
end Go.Proofs.YtaepiiediblleaaDoor

namespace Go.Proofs.YtaepiiediblleaaDoor

/-- These bytes stand in a text from an offset on. -/
def AtB (s : ByteArray) : Nat → List UInt8 → Prop
  | _, [] => True
  | i, c :: r => (∃ h : i < s.size, s[i] = c) ∧ AtB s (i + 1) r
theorem AtB.append {s : ByteArray} : (a b : List UInt8) → (i : Nat) → AtB s i (a ++ b) ↔ AtB s i a ∧ AtB s (i + a.length) b
  | [], b, i => by simp [AtB]
  | c :: r, b, i => by
    simp only [List.cons_append, AtB, AtB.append r b (i + 1), List.length_cons]
    rw [show i + 1 + r.length = i + (r.length + 1) by omega]
    exact and_assoc.symm
theorem AtB.get {s : ByteArray} : (b : List UInt8) → (i : Nat) → AtB s i b → ∀ j (hj : j < b.length), ∃ h : i + j < s.size, s[i + j] = b[j]
  | [], i, _, j, hj => by simp at hj
  | c :: r, i, h, 0, _ => by simpa using h.1
  | c :: r, i, h, j + 1, hj => by
    obtain ⟨h1, h2⟩ := AtB.get r (i + 1) h.2 j (by simpa using hj)
    have e : i + 1 + j = i + (j + 1) := by omega
    simp only [e] at h2
    exact ⟨by omega, by simpa using h2⟩
theorem AtB.of_get {s : ByteArray} : (b : List UInt8) → (i : Nat) → (∀ j (hj : j < b.length), ∃ h : i + j < s.size, s[i + j] = b[j]) → AtB s i b
  | [], i, _ => trivial
  | c :: r, i, h => by
    obtain ⟨g1, g2⟩ := h 0 (by simp)
    refine ⟨⟨by simpa using g1, by simpa using g2⟩, AtB.of_get r (i + 1) fun j hj => ?_⟩
    obtain ⟨h1, h2⟩ := h (j + 1) (by simpa using hj)
    have e : i + (j + 1) = i + 1 + j := by omega
    simp only [e] at h2
    exact ⟨by omega, by simpa using h2⟩
theorem AtB.le {s : ByteArray} : (b : List UInt8) → (i : Nat) → i ≤ s.size → AtB s i b → i + b.length ≤ s.size
  | [], i, hi, _ => by simpa using hi
  | c :: r, i, _, h => by
    obtain ⟨h1, _⟩ := h.1
    have := AtB.le r (i + 1) h1 h.2
    simp; omega
theorem atB_self (b : List UInt8) : AtB ⟨b.toArray⟩ 0 b := AtB.of_get b 0 fun j hj => by
  have h : 0 + j < (⟨b.toArray⟩ : ByteArray).size := by simp [ByteArray.size]; omega
  refine ⟨h, ?_⟩
  simp [ByteArray.getElem_eq_getElem_data]
theorem AtB.extract {s : ByteArray} {b : List UInt8} {i : Nat} (h : AtB s i b) (hi : i ≤ s.size) : s.extract i (i + b.length) = ⟨b.toArray⟩ := by
  have hle := AtB.le b i hi h
  apply ByteArray.ext
  apply Array.ext
  · rw [ByteArray.data_extract]
    simp only [Array.size_extract, List.size_toArray]
    have : s.data.size = s.size := rfl
    omega
  · intro j h1 h2
    obtain ⟨h3, h4⟩ := AtB.get b i h j (by simpa using h2)
    simp only [ByteArray.data_extract, Array.getElem_extract, List.getElem_toArray]
    rw [← h4]; rfl
theorem AtB.byte {s : ByteArray} {c : UInt8} {r : List UInt8} {i : Nat} (h : AtB s i (c :: r)) : byteAt s i = (c.toNat : Int) := by
  obtain ⟨h1, h2⟩ := h.1
  rw [byteAt_lt h1, h2]
theorem AtB.span {p : Int → Bool} {s : ByteArray} : (b : List UInt8) → (i : Nat) → AtB s i b → (∀ c ∈ b, p (c.toNat : Int) = true) → p (byteAt s (i + b.length)) = false → spanF p s (s.size - i) i = i + b.length
  | [], i, _, _, h => by
    simp only [List.length_nil, Nat.add_zero] at *
    by_cases hi : i < s.size
    · rw [byteAt_lt hi] at h; exact spanF_stop hi h
    · exact spanF_end hi
  | c :: r, i, h, hall, hend => by
    obtain ⟨⟨h1, h2⟩, h3⟩ := h
    have e : i + (c :: r).length = i + 1 + r.length := by simp; omega
    rw [e] at hend ⊢
    rw [spanF_step h1 (by rw [h2]; exact hall c (by simp)), AtB.span r (i + 1) h3 (fun x hx => hall x (List.mem_cons_of_mem _ hx)) hend]

/-- A word is read as one. -/
theorem tokenF_word {s t : ByteArray} {i : Nat} (hw : wordB t = true) (ha : AtB s i t.data.toList) (hi : i ≤ s.size) (hn : inWordB (byteAt s (i + t.data.toList.length)) = false) : tokenF s i = (⟨1, t, 0, i⟩, ((i + t.data.toList.length : Nat) : Int), 0) := by
  have hsp := AtB.span (p := inWordB) t.data.toList i ha (fun c hc => by
    simp only [wordB, Bool.and_eq_true, beq_iff_eq] at hw
    obtain ⟨j, hj, rfl⟩ := List.getElem_of_mem hc
    have hj' : j < t.size := by simpa using hj
    have := spanF_all inWordB t t.size 0 j hj' (by omega) (by rw [hw.2]; exact hj')
    simpa [ByteArray.getElem_eq_getElem_data] using this) hn
  have hex := ha.extract hi
  have et : (⟨t.data.toList.toArray⟩ : ByteArray) = t := by cases t; simp
  rw [et] at hex
  have hl : letterB (byteAt s i) = true := by
    have hw' := hw
    simp only [wordB, Bool.and_eq_true, bne_iff_ne] at hw'
    obtain ⟨⟨⟨⟨h0, _⟩, h1⟩, _⟩, _⟩ := hw'
    have h0' : 0 < t.size := by omega
    obtain ⟨h3, h4⟩ := AtB.get _ i ha 0 (by simpa using h0')
    rw [byteAt_lt h0'] at h1
    have h3' : i < s.size := by simpa using h3
    have h4' : s[i] = t[0] := by simpa [ByteArray.getElem_eq_getElem_data] using h4
    rw [byteAt_lt h3', h4']; exact h1
  rw [tokenF, if_pos hl, hsp, hex, if_pos hw]

/-- The digits of a number. -/
def digs : Nat → Nat → List UInt8
  | 0, _ => []
  | f + 1, n => if n < 10 then [UInt8.ofNat (48 + n)] else digs f (n / 10) ++ [UInt8.ofNat (48 + n % 10)]
/-- A number in decimal. -/
def decB (n : Int) : List UInt8 := if n < 0 then 45 :: digs 20 n.natAbs else digs 20 n.natAbs
def isDig (c : UInt8) : Prop := 48 ≤ c.toNat ∧ c.toNat ≤ 57
theorem isDig_of {n : Nat} (h : n < 10) : isDig (UInt8.ofNat (48 + n)) := by
  have : (UInt8.ofNat (48 + n)).toNat = 48 + n := by rw [UInt8.toNat_ofNat']; omega
  unfold isDig; omega
theorem digs_all : (f n : Nat) → ∀ c ∈ digs f n, isDig c
  | 0, n, c, h => by simp [digs] at h
  | f + 1, n, c, h => by
    rw [digs] at h
    split at h
    · rename_i hn; rw [List.mem_singleton.1 h]; exact isDig_of hn
    · rcases List.mem_append.1 h with h | h
      · exact digs_all f _ c h
      · rw [List.mem_singleton.1 h]; exact isDig_of (by omega)
def valD (n : Int) (b : List UInt8) : Int := b.foldl (fun a c => a * 10 + ((c.toNat : Int) - 48)) n
theorem valD_digs : (f n : Nat) → n < 10 ^ f → valD 0 (digs f n) = n
  | 0, n, h => by simp at h; simp [digs, valD, h]
  | f + 1, n, h => by
    rw [digs]
    split
    · rename_i hn
      have : (UInt8.ofNat (48 + n)).toNat = 48 + n := by rw [UInt8.toNat_ofNat']; omega
      simp only [valD, List.foldl_cons, List.foldl_nil, this]; omega
    · have h1 : n / 10 < 10 ^ f := by rw [Nat.pow_succ] at h; omega
      have ih := valD_digs f (n / 10) h1
      have : (UInt8.ofNat (48 + n % 10)).toNat = 48 + n % 10 := by rw [UInt8.toNat_ofNat']; omega
      unfold valD at *
      rw [List.foldl_append, ih]
      simp only [List.foldl_cons, List.foldl_nil, this]; omega
theorem valD_ge : (b : List UInt8) → (n : Int) → 0 ≤ n → (∀ c ∈ b, isDig c) → n ≤ valD n b
  | [], n, _, _ => by simp [valD]
  | c :: r, n, h, hall => by
    have hc := hall c (by simp)
    unfold isDig at hc
    have := valD_ge r (n * 10 + ((c.toNat : Int) - 48)) (by omega) (fun x hx => hall x (List.mem_cons_of_mem _ hx))
    simp only [valD, List.foldl_cons] at this ⊢
    omega
theorem digs_ne (f n : Nat) : digs (f + 1) n ≠ [] := by
  rw [digs]; split <;> simp
theorem digs_head : (f n : Nat) → 0 < n → n < 10 ^ f → ∃ c r, digs f n = c :: r ∧ c.toNat ≠ 48
  | 0, n, h, h2 => by simp at h2; omega
  | f + 1, n, h, h2 => by
    rw [digs]
    split
    · rename_i hn
      have : (UInt8.ofNat (48 + n)).toNat = 48 + n := by rw [UInt8.toNat_ofNat']; omega
      exact ⟨_, _, rfl, by omega⟩
    · obtain ⟨c, r, h3, h4⟩ := digs_head f (n / 10) (by omega) (by rw [Nat.pow_succ] at h2; omega)
      exact ⟨c, r ++ _, by rw [h3]; rfl, h4⟩
theorem decF_digits {s : ByteArray} : (b : List UInt8) → (k : Nat) → (n : Int) → AtB s k b → k + b.length = s.size → 0 ≤ n → (∀ c ∈ b, isDig c) → valD n b ≤ 17592186044416 → decF s (s.size - k) k n = some (valD n b)
  | [], k, n, _, hk, _, _, _ => by rw [decF_end (by simp at hk; omega)]; simp [valD]
  | c :: r, k, n, h, hk, hn, hall, hv => by
    obtain ⟨⟨h1, h2⟩, h3⟩ := h
    have hc := hall c (by simp)
    unfold isDig at hc
    have hr : ∀ x ∈ r, isDig x := fun x hx => hall x (List.mem_cons_of_mem _ hx)
    have hge := valD_ge r (n * 10 + ((c.toNat : Int) - 48)) (by omega) hr
    have e : valD n (c :: r) = valD (n * 10 + ((c.toNat : Int) - 48)) r := rfl
    rw [e] at hv ⊢
    rw [decF_step h1 (by rw [h2]; omega), h2]
    exact decF_digits r (k + 1) _ h3 (by simp at hk; omega) (by omega) hr hv
theorem numOf_digits (neg : Bool) {m : Nat} (hm : m ≤ 17592186044416) (h0 : neg = true → 0 < m) : numOf neg ⟨(digs 20 m).toArray⟩ = (if neg then -(m : Int) else m, 0) := by
  have hp : m < 10 ^ 20 := by omega
  have hat := atB_self (digs 20 m)
  have hsz : (⟨(digs 20 m).toArray⟩ : ByteArray).size = (digs 20 m).length := by simp [ByteArray.size]
  have hne : (digs 20 m).length ≠ 0 := fun h => digs_ne 19 m (List.eq_nil_of_length_eq_zero h)
  have hd := decF_digits (digs 20 m) 0 0 hat (by rw [hsz]; omega) (by omega) (digs_all 20 m) (by rw [valD_digs 20 m hp]; omega)
  rw [valD_digs 20 m hp] at hd
  rw [numOf, if_neg, hd]
  rintro (h | ⟨h1, h2⟩)
  · omega
  · rcases Nat.eq_zero_or_pos m with rfl | hpos
    · rcases h2 with h2 | h2
      · have := h0 h2; omega
      · rw [hsz] at h2; revert h2; decide
    · obtain ⟨c, r, h3, h4⟩ := digs_head 20 m hpos hp
      rw [h3] at hat h1
      rw [hat.byte] at h1
      exact h4 (by omega)
theorem toNat_inj {a b : UInt8} (h : a.toNat = b.toNat) : a = b := UInt8.toNat_inj.1 h
/-- A number is read as one. -/
theorem tokenF_number {s : ByteArray} {n : Int} {i : Nat} (h1 : -17592186044416 ≤ n) (h2 : n ≤ 17592186044416) (ha : AtB s i (decB n)) (hi : i ≤ s.size) (hn : inWordB (byteAt s (i + (decB n).length)) = false) : tokenF s i = (⟨2, ⟨#[]⟩, n, i⟩, ((i + (decB n).length : Nat) : Int), 0) := by
  have hnd : digitB (byteAt s (i + (decB n).length)) = false := by simp [inWordB] at hn; simp [hn]
  have hdig : ∀ c ∈ digs 20 n.natAbs, digitB (c.toNat : Int) = true := fun c hc => by have := digs_all _ _ c hc; unfold isDig at this; simp [digitB]; omega
  have hex := ha.extract hi
  obtain ⟨c, r, hcr⟩ : ∃ c r, digs 20 n.natAbs = c :: r := by
    cases h : digs 20 n.natAbs with
    | nil => exact absurd h (digs_ne 19 _)
    | cons c r => exact ⟨c, r, rfl⟩
  have hc : isDig c := digs_all 20 n.natAbs c (by rw [hcr]; simp)
  unfold isDig at hc
  by_cases hneg : n < 0
  · have e : decB n = 45 :: digs 20 n.natAbs := by rw [decB, if_pos hneg]
    rw [e] at ha hex hnd ⊢
    have hb := ha.byte
    have hsp := AtB.span (p := digitB) (digs 20 n.natAbs) (i + 1) ha.2 hdig (by simpa [Nat.add_assoc, Nat.add_comm 1] using hnd)
    have e2 : i + (45 :: digs 20 n.natAbs).length = i + 1 + (digs 20 n.natAbs).length := by simp; omega
    rw [e2] at hex ⊢
    have hnum : numberF (⟨(45 :: digs 20 n.natAbs).toArray⟩ : ByteArray) = (n, 0) := by
      have ha2 := atB_self (45 :: digs 20 n.natAbs)
      rw [numberF, if_pos (by rw [ha2.byte]; rfl)]
      have h3 := AtB.extract (s := ⟨(45 :: digs 20 n.natAbs).toArray⟩) (i := 1) ha2.2 (by simp [ByteArray.size])
      rw [show (⟨(45 :: digs 20 n.natAbs).toArray⟩ : ByteArray).size = 1 + (digs 20 n.natAbs).length by simp [ByteArray.size]; omega, h3, numOf_digits true (by omega) (by omega)]
      simp; omega
    rw [tokenF, if_neg (by rw [hb]; decide), if_pos (by rw [hb]; decide), hsp, hex, hnum, if_pos rfl]
  · have e : decB n = digs 20 n.natAbs := by rw [decB, if_neg hneg]
    rw [e] at ha hex hnd ⊢
    have ha' := ha
    rw [hcr] at ha'
    have hb := ha'.byte
    have hsp := AtB.span (p := digitB) r (i + 1) ha'.2 (fun x hx => hdig x (by rw [hcr]; exact List.mem_cons_of_mem _ hx)) (by rw [hcr] at hnd; simpa [Nat.add_assoc, Nat.add_comm 1] using hnd)
    have e2 : i + (digs 20 n.natAbs).length = i + 1 + r.length := by rw [hcr]; simp; omega
    rw [e2] at hex ⊢
    have hnum : numberF (⟨(digs 20 n.natAbs).toArray⟩ : ByteArray) = (n, 0) := by
      have ha2 := atB_self (digs 20 n.natAbs)
      rw [hcr] at ha2
      rw [numberF, if_neg (by rw [hcr, ha2.byte]; omega), numOf_digits false (by omega) (by simp)]
      simp; omega
    have hdg : digitB (byteAt s i) = true := by rw [hb]; simp [digitB]; omega
    have hlt : letterB (byteAt s i) = false := by rw [hb]; simp [letterB]; omega
    rw [tokenF, if_neg (by rw [hlt]; simp), if_pos (by rw [hdg]; rfl), hsp, hex, hnum, if_pos rfl]
/-- A mark is read as one. -/
theorem tokenF_mark {s : ByteArray} {c : UInt8} {i : Nat} (hm : markB (c.toNat : Int) = true) (ha : AtB s i [c]) (hi : i ≤ s.size) : tokenF s i = (⟨4, ⟨#[c]⟩, 0, i⟩, ((i + 1 : Nat) : Int), 0) := by
  have hex := ha.extract hi
  have hb := ha.byte
  simp only [List.length_singleton] at hex
  have hc : c.toNat = 59 ∨ c.toNat = 58 ∨ c.toNat = 44 ∨ c.toNat = 40 ∨ c.toNat = 41 := by simp [markB] at hm; omega
  rw [tokenF, if_neg (by rw [hb]; simp [letterB]; omega), if_neg (by rw [hb]; simp [digitB]; omega), if_pos (by rw [hb]; exact hm), hex]
end Go.Proofs.YtaepiiediblleaaDoor

namespace Go.Proofs.YtaepiiediblleaaDoor
open Go.RowKit

/-- What the scanner makes of a text. -/
def scanAll (s : ByteArray) : List Tok × Int × Int := if 16384 < s.size then ([], 0, 4) else scanF s s.size 0 []
def ParseQ (e : Ex) (er : Int) (M : List Nat) (w : World) (r : Ending) (w' : World) : Prop := ∃ (x : ExV) (off : Int), r = .returned (.tuple #[x.val, .int .i64 off, .int .i64 er]) ∧ IsEx (mask w' M) e x.val ∧ (er = 0 → off = 0) ∧ Ext w w'

set_option maxRecDepth 100000 in
set_option maxHeartbeats 2000000 in
theorem Parse_ok (s : ByteArray) (toks : List Tok) (e : Ex) (w : World) (ho : HasOps w) (hs : s.size ≤ 1000000000000000) (h64 : ∀ i, i < s.size → byteAt s i ≠ 64) (hS : scanAll s = (toks, 0, 0)) (htn : toks.length ≤ 1000000) (hsz : ∀ t ∈ toks, t.text.size ≤ 1000000000000000)
    (hT : tokensF toks 0 = (e, (toks.length : Int), 0, 0)) (M : List Nat) (hM : ∀ y ∈ M, y < w.heap.size) : Calls Tryd.prog 10 #[.string s] w (ParseQ e 0 M w) := by
  have HO := Lib.hid ho
  have HSC := Lib.hid (scan_calls s)
  have HS := Lib.hid hS
  have HT := Lib.hid hT
  have HZ := Lib.hid hsz
  have H64 := Lib.hid h64
  have HMM := Lib.hid hM
  clear ho hS hT hsz h64 hM HSC
  go_enter Tryd.func10, Tryd.ntmps10
  go_wp2_with fail
  refine (scan_calls s _ hs H64.out).mono ?_
  rw [show (if 16384 < s.size then (([], 0, 4) : List Tok × Int × Int) else scanF s s.size 0 []) = (toks, 0, 0) from HS.out]
  rintro r w1 ⟨a, n, c, rfl, hl, hx⟩
  have hb := hx.blk (alloc_new w (.cells #[.int .i64 0, .string ⟨#[]⟩, .slice none 0 0, .int .i64 0, .int .i64 0, .slice none 0 0] 26))
  have HX1 := Lib.hid (((Ext.refl w).alloc _).trans hx)
  have HL := Lib.hid hl
  have HN := Lib.hid hl.1
  have HB := Lib.hid hb
  have hn1 : n ≤ 1000000 := by have := hl.1; simp only at this; omega
  have HM1 := Lib.hid (show ∀ y ∈ w.heap.size :: M, y < w1.heap.size from fun y hy => by
    have h1 := blk_lt hb
    rcases List.mem_cons.1 hy with rfl | hy
    · exact h1
    · have := HMM.out y hy; omega)
  clear hx hl hb
  simp only at HL HN
  go_wp2_with fail
  refine (Tokens_calls toks a n c 0 w1 HL.out (HO.out.ext HX1.out) hn1 HZ.out (w.heap.size :: M) HM1.out).mono ?_
  rw [HT.out]
  rintro r w2 ⟨x, rfl, hix, hx2⟩
  have hb := hx2.blk HB.out
  have hlt := blk_lt hb
  obtain ⟨b0, b1, b2, b3, b4, b5, bf⟩ := blk6 hb
  have HX2 := Lib.hid (HX1.out.trans hx2)
  have HIX := Lib.hid hix
  have tn : decide ((toks.length : Int) < (n : Int)) = false := by have := HN.out; simp; omega
  have tn2 : decide (toks.length < n) = false := by have := HN.out; simp; omega
  clear hix hx2 hb HX1 HB
  unfold ExV.val exV
  simp only
  go_wp2_with fail
  refine bodyPost_ret (v := .tuple #[x.val, .int .i64 0, .int .i64 0]) (by simp [results, Tryd.results10, go_sem, ExV.val, exV, b0, b1, b2, b3, b4, b5, hlt]) rfl ?_
  refine ⟨x, 0, rfl, HIX.out.mono ((Chg.sub ?_).trans (mask_less _ (fun y hy => List.mem_cons_of_mem _ hy))), fun _ => rfl, ?_⟩
  · repeat (with_reducible (first | refine Chg.alloc ?_ _ | refine Chg.setCell ?_ ?_ _ | refine Chg.drew ?_ | refine Chg.drewN ?_ _))
    exact Chg.refl _ _
    all_goals (refine Or.inl ?_; simp)
  · repeat (with_reducible (first | refine Ext.alloc ?_ _ | refine Ext.setAbove ?_ ?_ _ | refine Ext.drew ?_ | refine Ext.drewN ?_ _))
    exact HX2.out
    all_goals simp
end Go.Proofs.YtaepiiediblleaaDoor
