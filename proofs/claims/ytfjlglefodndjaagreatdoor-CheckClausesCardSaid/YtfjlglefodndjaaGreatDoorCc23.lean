/-
  Texts of the claim, joined: Conds, SCla, SWord, SVal.
-/
import Derived.Test.YtfjlglefodndjaaGreatDoorCc10
import Derived.Test.YtfjlglefodndjaaGreatDoorCc13
import Derived.Test.YtfjlglefodndjaaGreatDoorCc22
import Derived.Test.YtfjlglefodndjaaGreatDoorCc21
import Derived.Deep.DeepCutAuto
import Derived.Test.YtfjlglefodndjaaGreatDoorCc15
import Derived.Test.YtfjlglefodndjaaGreatDoorCc12
namespace Go.Proofs.YtfjlglefodndjaaGreatDoor
open Go.RowKit

/-! check.exceptions, check.conditions: the conditions of a clause in a row. -/
def condsW : List Wb → List Ex
  | [] => []
  | .mk _ c u :: r => c :: (condsW u ++ condsW r)
theorem condsW_len : (l : List Wb) → (condsW l).length = wbN l
  | [] => by simp [condsW, wbN]
  | .mk n c u :: r => by simp [condsW, wbN, condsW_len u, condsW_len r]; omega
theorem condsW_take_succ : (l : List Wb) → (k : Nat) → (hk : k < l.length) → condsW (l.take (k + 1)) = condsW (l.take k) ++ l[k].cond :: condsW l[k].unl
  | [], k, hk => by simp at hk
  | .mk n c u :: r, 0, _ => by simp [condsW, Wb.cond, Wb.unl]
  | .mk n c u :: r, k + 1, hk => by
    have := condsW_take_succ r k (by simpa using hk)
    simp [condsW] at this ⊢
    rw [this]
def GnX (k : Nat) (W W' : World) : Prop := k ≠ 4 → k ≠ 7 → Ext W W'
def GrXL (V : Value) (wr : World) (L : List Nat) (_ : Nat → Value) (W : World) : Prop := Chg (rowOf V) wr W ∧ (4 ∉ L → 7 ∉ L → Ext wr W)
theorem grx_step {V : Value} {wr W W' : World} {L : List Nat} {vs : Nat → Value} {i : Nat} {v : Value} (h : GrXL V wr L vs W) (hx : Ext W W') : GrXL V wr (L ++ [i]) (upd vs i v) W' :=
  ⟨h.1.then (hx.chg _), fun h4 h7 => (h.2 (fun hm => h4 (List.mem_append_left _ hm)) (fun hm => h7 (List.mem_append_left _ hm))).trans hx⟩
theorem grx_brk {V : Value} {wr W' : World} {L : List Nat} {vs : Nat → Value} {i : Nat} {v : Value} (hi : i = 4 ∨ i = 7) (hc : Chg (rowOf V) wr W') : GrXL V wr (L ++ [i]) (upd vs i v) W' :=
  ⟨hc, fun h4 h7 => by rcases hi with rfl | rfl; exact absurd (by simp) h4; exact absurd (by simp) h7⟩
theorem ExsR.app {w : World} {l l' : List Ex} {xs xs' : List ExV} (h : ExsR w l xs) (h' : ExsR w l' xs') : ExsR w (l ++ l') (xs ++ xs') := by
  refine ⟨by simp [h.1, h'.1], fun i h1 h2 => ?_⟩
  by_cases hi : i < l.length
  · have hi2 : i < xs.length := by rw [← h.1]; exact hi
    simp only [List.getElem_append_left hi, List.getElem_append_left hi2]
    exact h.2 i hi hi2
  · have hi2 : xs.length ≤ i := by have := h.1; omega
    simp only [List.getElem_append_right (Nat.le_of_not_lt hi), List.getElem_append_right hi2]
    have e := h.1
    have := h'.2 (i - l.length) (by simp at h1; omega) (by simp at h2; omega)
    simpa [e] using this
def ExcQ (w0 : World) (B : Nat) (l : List Wb) (V : Value) (n : Nat) (zs : List Value) (w : World) (e : Ending) (w' : World) : Prop := ∃ (v : Value) (ys : List ExV), e = .returned v ∧ w'.ownsRow B 29 6 v (n + wbN l) (zs ++ ys.flatMap ExV.cells) ∧ ExsR w0 (condsW l) ys ∧
  Chg (rowOf V) w w' ∧ (∀ k, v.ownBlock = some k → V.ownBlock = some k ∨ w.heap.size ≤ k)
def ExcL (w0 : World) (B : Nat) (l : List Wb) (V : Value) (n : Nat) (zs : List Value) (w : World) (nl : Nat) (v t : Value) (wr : World) : Prop := ∃ (k : Nat) (ys : List ExV), t = .int .i64 ((k : Nat) : Int) ∧ k ≤ nl ∧ wr.ownsRow B 29 6 v (n + wbN (l.take k)) (zs ++ ys.flatMap ExV.cells) ∧ ExsR w0 (condsW (l.take k)) ys ∧
  Chg (rowOf V) w wr ∧ (∀ k, v.ownBlock = some k → V.ownBlock = some k ∨ w.heap.size ≤ k)
--BEGIN DEF X4
def exc4R (w0 wx : World) (B : Nat) (va : Option Addr) (vn vc : Nat) (zk : List Value) (rv : WbV) (U : List Wb) (y : Nat) : Nat → Value → World → Prop
  | 0, u, _ => u = (.slice va vn vc)
  | 1, u, _ => u = .pointer (some ⟨y, 1, none⟩)
  | 2, u, _ => u = .agg #[.int .i64 rv.x.op, .string rv.x.name, .slice rv.x.aw rv.x.nw rv.x.cw, .int .i64 rv.x.lo, .int .i64 rv.x.hi, .slice rv.x.aa rv.x.na rv.x.ca]
  | 3, u, W => ∃ (g : Nat), u = .slice (some ⟨g, 0, none⟩) 1 1 ∧ W.heap[g]? = some (.cells rv.x.cells.toArray 29 (0, 0))
  | 4, u, W => ∃ (gg : Nat) (cp : Nat), u = .slice (some ⟨gg, 0, none⟩) (vn + 1) cp ∧ (W.ownsRow B 29 6 (.slice (some ⟨gg, 0, none⟩) (vn + 1) cp) (vn + 1) (zk ++ rv.x.cells) ∧ (Value.ownBlock (.slice va vn vc) = some gg ∨ wx.heap.size ≤ gg))
  | 5, u, _ => u = .pointer (some ⟨y, 7, none⟩)
  | 6, u, _ => u = .slice rv.au rv.nu rv.cu
  | _, u, W => ∃ (v2 : Value) (ysn : List ExV), u = v2 ∧ (W.ownsRow B 29 6 v2 (vn + 1 + wbN U) (zk ++ rv.x.cells ++ ysn.flatMap ExV.cells) ∧ ExsR w0 (condsW U) ysn ∧ ∀ q, v2.ownBlock = some q → Value.ownBlock (.slice va vn vc) = some q ∨ wx.heap.size ≤ q)
--END DEF X4
set_option maxRecDepth 100000 in
set_option maxHeartbeats 8000000 in
theorem exceptions_calls {w0 : World} (fm : Nat) : ∀ (l : List Wb) (a : Option Addr) (nl c B : Nat) (V : Value) (n : Nat) (zs : List Value) (w : World), wbN l < fm → nl = l.length → n + wbN l ≤ 10000 → WbsD w0 l a → Ext w0 w → w0.heap.size ≤ B → B ≤ w.heap.size → w.ownsRow B 29 6 V n zs →
    Calls Tryz.prog 61 #[V, .slice a nl c] w (ExcQ w0 B l V n zs w) := by
  induction fm with
  | zero => intro l a nl c B V n zs w h; omega
  | succ fm ih =>
    intro l a nl c B V n zs w hfm hln hnb hdat hx0 hB hBw hown
    have HD := Lib.hid hdat
    have HN := Lib.hid hln
    have HX0 := Lib.hid hx0
    have HOW0 := Lib.hid hown
    have IH := Lib.hid ih
    have HB := Lib.hid hB
    have HBW := Lib.hid hBw
    have hwl := wbN_len l
    have hnl : nl ≤ 10000 := by omega
    clear hdat hln hx0 ih hown
    go_enter Tryz.func61, Tryz.ntmps61
    go_wp2_with fail
    go_loopw [0, 9] (ExcL w0 B l V n zs w nl) (fun _ t _ => nl - (intOf t).toNat)
    case atStart => exact ⟨0, [], rfl, by omega, by simpa [wbN] using HOW0.out, by simp [condsW, ExsR.nil], Chg.refl _ _, fun k hk => Or.inl hk⟩
    case round =>
      obtain ⟨k, ys, rfl, hk, how, hys, hch, hfr⟩ := hrel
      obtain ⟨va, vc, hv⟩ := owns_formG how
      subst hv
      obtain ⟨vn, hvn⟩ : ∃ vn, vn = n + wbN (l.take k) := ⟨_, rfl⟩
      rw [← hvn] at how hfr ⊢
      have HVN := Lib.hid hvn
      have hvb : vn ≤ 10000 := by have := wbN_take_le l k; omega
      obtain ⟨zk, hzk⟩ : ∃ zk, zk = zs ++ ys.flatMap ExV.cells := ⟨_, rfl⟩
      rw [← hzk] at how
      have HZK := Lib.hid hzk
      have HOW := Lib.hid how
      have HYS := Lib.hid hys
      have HCH := Lib.hid hch
      have HFR := Lib.hid hfr
      have HXR := Lib.hid (show Ext w0 wr from hch.ext HX0.out (fun y hy => by have := (HOW0.out.lt y (mem_rowOf.1 hy)).1; have := HB.out; omega))
      clear hvn hzk how hys hch hfr
      by_cases hkn : k < nl
      case neg =>
        have t1 : decide ((k : Int) < (nl : Int)) = false := decide_eq_false (by omega)
        have HT := Lib.hid (show l.take k = l from List.take_of_length_le (by have := HN.out; omega))
        go_wp2_with fail
        go_ret
        refine ⟨_, ys, rfl, ?_, ?_, HCH.out, HFR.out⟩
        · have h1 := HOW.out
          have h2 := HVN.out
          rw [HT.out] at h2
          rw [← h2, ← HZK.out]
          exact h1
        · have := HYS.out
          rwa [HT.out] at this
      have hkl : k < l.length := by have := HN.out; omega
      have t1 : decide ((k : Int) < (nl : Int)) = true := decide_eq_true (by omega)
      obtain ⟨b, off, rfl, rv, hv0, hrow, hv2, hv3, hv4, hv5, hv6⟩ := WbsD.at l _ HD.out k hkl
      obtain ⟨c0, c1, c2, c3, c4, c5, c6, c7⟩ := (hrow.mono HXR.out.sub).eight
      have hwn := wbN_at l k hkl
      have HU := Lib.hid hv6
      have HUN := Lib.hid hv3
      have HEX := Lib.hid hv2
      have HTS := Lib.hid (wbN_take_succ l k hkl)
      have HCT := Lib.hid (condsW_take_succ l k hkl)
      have HTL := Lib.hid (wbN_take_le l (k + 1))
      have hunb : vn + 1 + wbN l[k].unl ≤ 10000 := by have h1 := wbN_take_le l (k + 1); have h2 := wbN_take_succ l k hkl; have h3 := HVN.out; omega
      have hufm : wbN l[k].unl < fm := by omega
      clear hrow hv0 hv2 hv3 hv4 hv5 hv6
      obtain ⟨y, hy⟩ : ∃ y, y = wr.heap.size := ⟨_, rfl⟩
      obtain ⟨wx, hwx⟩ : ∃ wx, wx = wr.alloc (.cells #[.string rv.name, .int .i64 rv.x.op, .string rv.x.name, .slice rv.x.aw rv.x.nw rv.x.cw, .int .i64 rv.x.lo, .int .i64 rv.x.hi, .slice rv.x.aa rv.x.na rv.x.ca, .slice rv.au rv.nu rv.cu] 77) := ⟨_, rfl⟩
      have HBX := Lib.hid (show wx.heap[y]? = some (.cells #[.string rv.name, .int .i64 rv.x.op, .string rv.x.name, .slice rv.x.aw rv.x.nw rv.x.cw, .int .i64 rv.x.lo, .int .i64 rv.x.hi, .slice rv.x.aa rv.x.na rv.x.ca, .slice rv.au rv.nu rv.cu] 77 (0, 0)) by rw [hwx, hy]; exact alloc_new wr _)
      have HXX := Lib.hid (show Ext wr wx by rw [hwx]; exact (Ext.refl _).alloc _)
      have HYN := Lib.hid (show y ∉ rowOf (.slice va vn vc) from fun h => by have := (HOW.out.lt y (mem_rowOf.1 h)).2; omega)
      have HOX := Lib.hid (owns_extG HOW.out HXX.out)
      have HYW := Lib.hid (show wr.heap.size ≤ y by omega)
      go_upto_region 4 with fail
      rw [← hwx, ← hy]
      clear hwx c0 c1 c2 c3 c4 c5 c6 c7 hy
      obtain ⟨U, hU⟩ : ∃ U, U = l[k].unl := ⟨_, rfl⟩
      rw [← hU] at HU HUN hunb hufm HTS HCT
      have HBX2 := Lib.hid (show B ≤ wx.heap.size from Nat.le_trans HBW.out (Nat.le_trans HCH.out.size HXX.out.size))
      clear hU
      --BEGIN X4
      refine wp_region_growLG (n := 0) (m := 8) [7] (GrXL (.slice va vn vc) wx) GnX (GrP (exc4R w0 wx B va vn vc zk rv U y)) (by kernel_rfl) (by kernel_rfl) (Nat.le_of_ble_eq_true rfl) ?gd ⟨((Ext.refl wx).drew).chg _, fun _ _ => (Ext.refl wx).drew⟩ ?_ ?_ ?_
      case gd =>
        intro i o j b hi ho hg
        have hi' : i = 0 ∨ i = 1 ∨ i = 2 ∨ i = 3 ∨ i = 4 ∨ i = 5 ∨ i = 6 ∨ i = 7 := by omega
        rcases hi' with rfl | rfl | rfl | rfl | rfl | rfl | rfl | rfl <;> (cases ho; first | (cases hg; done) | (cases hg; intro v W h; exact h))
      · intro i k v W W' hi hk hne hout h hE
        have hi' : i = 0 ∨ i = 1 ∨ i = 2 ∨ i = 3 ∨ i = 4 ∨ i = 5 ∨ i = 6 ∨ i = 7 := by omega
        clear hi hk
        by_cases hk : k = 4
        · subst hk
          rcases hi' with rfl | rfl | rfl | rfl | rfl | rfl | rfl | rfl
          · exact h
          · exact h
          · exact h
          · exact absurd hout (by decide +kernel)
          · exact absurd rfl hne
          · exact h
          · exact h
          · exact absurd hout (by decide +kernel)
        by_cases hk : k = 7
        · subst hk
          rcases hi' with rfl | rfl | rfl | rfl | rfl | rfl | rfl | rfl
          · exact h
          · exact h
          · exact h
          · exact absurd hout (by decide +kernel)
          · exact absurd hout (by decide +kernel)
          · exact h
          · exact h
          · exact absurd rfl hne
        have hE : Ext W W' := (hE ‹_› ‹_›)
        rcases hi' with rfl | rfl | rfl | rfl | rfl | rfl | rfl | rfl
        · exact h
        · exact h
        · exact h
        · obtain ⟨g, e0, h⟩ := h
          exact ⟨g, e0, hE.blk h⟩
        · obtain ⟨gg, cp, e0, h⟩ := h
          exact ⟨gg, cp, e0, ⟨owns_extG h.1 hE, h.2⟩⟩
        · exact h
        · exact h
        · obtain ⟨v2, ysn, e0, h⟩ := h
          exact ⟨v2, ysn, e0, ⟨owns_extG h.1 hE, h.2⟩⟩
      · intro q op hq ho L vs W hqL hcL hW hd ρ hρ
        have hq' : q = 0 ∨ q = 1 ∨ q = 2 ∨ q = 3 ∨ q = 4 ∨ q = 5 ∨ q = 6 ∨ q = 7 := by omega
        clear hq
        have o0 : ρ (.tmp 0) = (.slice va vn vc) := hρ.out 0 rfl
        have o6 : ρ (.tmp 6) = .pointer (some ⟨y, 0, none⟩) := hρ.out 6 rfl
        have i1 := hρ.ins 1 14 (by omega) rfl (Nat.le_of_ble_eq_true rfl)
        have i2 := hρ.ins 2 15 (by omega) rfl (Nat.le_of_ble_eq_true rfl)
        have i0 := hρ.ins 0 13 (by omega) rfl (Nat.le_of_ble_eq_true rfl)
        have i3 := hρ.ins 3 16 (by omega) rfl (Nat.le_of_ble_eq_true rfl)
        have i5 := hρ.ins 5 18 (by omega) rfl (Nat.le_of_ble_eq_true rfl)
        have i4 := hρ.ins 4 17 (by omega) rfl (Nat.le_of_ble_eq_true rfl)
        have i6 := hρ.ins 6 19 (by omega) rfl (Nat.le_of_ble_eq_true rfl)
        have hc := hρ.const
        have hfn := hρ.func
        clear hρ
        rcases hq' with rfl | rfl | rfl | rfl | rfl | rfl | rfl | rfl
        · have HG := Lib.hid hW
          have HW := Lib.hid (show Chg (rowOf (.slice va vn vc)) wx W from hW.1)
          have HQL := Lib.hid hqL
          clear hW hqL hcL
          cases ho
          clear hd
          unfold GivesOp
          go_simp
          exact ⟨fun _ _ => Ext.refl W, grx_step HG.out (Ext.refl W), rfl⟩
        · have HG := Lib.hid hW
          have HW := Lib.hid (show Chg (rowOf (.slice va vn vc)) wx W from hW.1)
          have HQL := Lib.hid hqL
          clear hW hqL hcL
          cases ho
          clear hd
          unfold GivesOp
          go_simp
          exact ⟨fun _ _ => Ext.refl W, grx_step HG.out (Ext.refl W), rfl⟩
        · have HG := Lib.hid hW
          have HW := Lib.hid (show Chg (rowOf (.slice va vn vc)) wx W from hW.1)
          have HQL := Lib.hid hqL
          clear hW hqL hcL
          cases ho
          have h1 : vs 1 = .pointer (some ⟨y, 1, none⟩) := hd ⟨1, .data⟩ (by simp) rfl
          rw [h1] at i1
          clear hd
          obtain ⟨g0, g1, g2, g3, g4, g5, g6, g7, gf⟩ := blk8 (HW.out.blk HBX.out HYN.out)
          unfold GivesOp
          go_simp
          exact ⟨fun _ _ => Ext.refl W, grx_step HG.out (Ext.refl W), rfl⟩
        · have HG := Lib.hid hW
          have HW := Lib.hid (show Chg (rowOf (.slice va vn vc)) wx W from hW.1)
          have HQL := Lib.hid hqL
          clear hW hqL hcL
          cases ho
          have h2 : vs 2 = .agg #[.int .i64 rv.x.op, .string rv.x.name, .slice rv.x.aw rv.x.nw rv.x.cw, .int .i64 rv.x.lo, .int .i64 rv.x.hi, .slice rv.x.aa rv.x.na rv.x.ca] := hd ⟨2, .data⟩ (by simp) rfl
          rw [h2] at i2
          clear hd
          unfold GivesOp
          go_simp
          exact ⟨fun _ _ => (Ext.refl W).alloc _, grx_step HG.out ((Ext.refl W).alloc _), W.heap.size, rfl, alloc_new W _⟩
        · have HN7 := Lib.hid (show 7 ∉ L from fun h => absurd (hcL 7 h) (by decide +kernel))
          have HG := Lib.hid hW
          have HW := Lib.hid (show Chg (rowOf (.slice va vn vc)) wx W from hW.1)
          have HQL := Lib.hid hqL
          clear hW hqL hcL
          cases ho
          have h0 : vs 0 = (.slice va vn vc) := hd ⟨0, .data⟩ (by simp) rfl
          rw [h0] at i0
          obtain ⟨g, h3, hs3⟩ : ∃ (g : Nat), vs 3 = .slice (some ⟨g, 0, none⟩) 1 1 ∧ W.heap[g]? = some (.cells rv.x.cells.toArray 29 (0, 0)) := hd ⟨3, .data⟩ (by simp) rfl
          have HS3 := Lib.hid hs3
          clear hs3
          rw [h3] at i3
          clear hd
          have HXW := Lib.hid (HG.out.2 HQL.out HN7.out)
          refine gives_append elemEx _ _ B _ vn zk i0 g 1 1 rv.x.cells i3 rfl (by simp [ExV.cells, Value.oneCell']) (by omega) (by omega) (by omega) (owns_extG HOX.out HXW.out) (fun j hj => by rw [blk_cell HS3.out]; simp [hj]) (by have := HBX2.out; have := HXW.out.size; omega) ?_
          intro g6 cap6 w6 ho6 hg6 hl6 hlt6
          exact ⟨fun h => absurd rfl h, grx_brk (Or.inl rfl) (HW.out.then (grown_chg hg6)), g6, cap6, rfl, ho6, by rcases hl6 with h | h; exact Or.inl h; exact Or.inr (by have := HXW.out.size; omega)⟩
        · have HG := Lib.hid hW
          have HW := Lib.hid (show Chg (rowOf (.slice va vn vc)) wx W from hW.1)
          have HQL := Lib.hid hqL
          clear hW hqL hcL
          cases ho
          clear hd
          unfold GivesOp
          go_simp
          exact ⟨fun _ _ => Ext.refl W, grx_step HG.out (Ext.refl W), rfl⟩
        · have HG := Lib.hid hW
          have HW := Lib.hid (show Chg (rowOf (.slice va vn vc)) wx W from hW.1)
          have HQL := Lib.hid hqL
          clear hW hqL hcL
          cases ho
          have h5 : vs 5 = .pointer (some ⟨y, 7, none⟩) := hd ⟨5, .data⟩ (by simp) rfl
          rw [h5] at i5
          clear hd
          obtain ⟨g0, g1, g2, g3, g4, g5, g6, g7, gf⟩ := blk8 (HW.out.blk HBX.out HYN.out)
          unfold GivesOp
          go_simp
          exact ⟨fun _ _ => Ext.refl W, grx_step HG.out (Ext.refl W), rfl⟩
        · have HG := Lib.hid hW
          have HW := Lib.hid (show Chg (rowOf (.slice va vn vc)) wx W from hW.1)
          have HQL := Lib.hid hqL
          clear hW hqL hcL
          cases ho
          obtain ⟨gg, cp, h4, hs4⟩ : ∃ (gg : Nat) (cp : Nat), vs 4 = .slice (some ⟨gg, 0, none⟩) (vn + 1) cp ∧ (W.ownsRow B 29 6 (.slice (some ⟨gg, 0, none⟩) (vn + 1) cp) (vn + 1) (zk ++ rv.x.cells) ∧ (Value.ownBlock (.slice va vn vc) = some gg ∨ wx.heap.size ≤ gg)) := hd ⟨4, .data⟩ (by simp) rfl
          have HS4 := Lib.hid hs4
          clear hs4
          rw [h4] at i4
          have h6 : vs 6 = .slice rv.au rv.nu rv.cu := hd ⟨6, .data⟩ (by simp) rfl
          rw [h6] at i6
          clear hd
          unfold GivesOp
          go_simp
          have HXW0 : Ext w0 W := HW.out.ext (HXR.out.trans HXX.out) (fun q hq => by have := (HOX.out.lt q (mem_rowOf.1 hq)).1; have := HB.out; omega)
          refine (IH.out U rv.au rv.nu rv.cu B _ (vn + 1) _ W hufm HUN.out (by omega) HU.out HXW0 HB.out (by have := HBX2.out; have := HW.out.size; omega) HS4.out.1).mono ?_
          rintro r w6 ⟨v6, ys6, rfl, k1, k2, k3, k4⟩
          have hrow : ∀ q, some gg = some q → q ∈ rowOf (.slice va vn vc) ∨ wx.heap.size ≤ q := fun q hq => by
            obtain rfl : gg = q := by simpa using hq
            rcases HS4.out.2 with h | h
            · exact Or.inl (mem_rowOf.2 h)
            · exact Or.inr h
          exact ⟨_, rfl, fun _ h => absurd rfl h, grx_brk (Or.inr rfl) (HW.out.trans k3 (fun q hq => hrow q (mem_rowOf.1 hq))), v6, ys6, rfl, k1, k2, fun q hq => by
            rcases k4 q hq with h | h
            · exact (hrow q h).imp mem_rowOf.1 id
            · exact Or.inr (by have := HW.out.size; omega)⟩
      intro L vs W hLm hW hR
      rw [if_neg (by decide +kernel)]
      obtain ⟨v2, ysn, h7, hs7⟩ : ∃ (v2 : Value) (ysn : List ExV), vs 7 = v2 ∧ (W.ownsRow B 29 6 v2 (vn + 1 + wbN U) (zk ++ rv.x.cells ++ ysn.flatMap ExV.cells) ∧ ExsR w0 (condsW U) ysn ∧ ∀ q, v2.ownBlock = some q → Value.ownBlock (.slice va vn vc) = some q ∨ wx.heap.size ≤ q) := hR 7 (by simp) (by omega)
      have HS7 := Lib.hid hs7
      clear hs7
      refine wpOp_lastG rfl ?_
      change wpList _ _ _ [⟨some 0, .assign (.tmp 20), _, _, _, none⟩] _ _
      simp only [acts, dstAt, List.range, List.range.loop, List.foldl_cons, List.foldl_nil, h7]
      go_simp
      have hW2 : Chg (rowOf (.slice va vn vc)) wx W := hW.1
      clear hR hW hLm h7
      --END X4
      obtain ⟨h1, h2, h3⟩ := HS7.out
      have HO8 := Lib.hid h1
      have HY8 := Lib.hid h2
      have HF8 := Lib.hid h3
      have HC8 := Lib.hid (show Chg (rowOf (.slice va vn vc)) wx W from hW2)
      clear HS7 hW2 h1 h2 h3
      go_wp2_with fail
      go_roundw
      case rel =>
        refine ⟨k + 1, ys ++ rv.x :: ysn, by go_num, by omega, ?_, ?_, ?_, ?_⟩
        · have h1 := HO8.out
          have h2 : vn + 1 + wbN U = n + wbN (l.take (k + 1)) := by have := HVN.out; have := HTS.out; omega
          rw [h2, HZK.out] at h1
          simpa using h1
        · rw [HCT.out]
          refine HYS.out.app ?_
          have h1 : ExsR w0 [l[k].cond] [rv.x] := (ExsR.nil w0).snoc HEX.out
          have := h1.app HY8.out
          simpa using this
        · refine (HCH.out.then (HXX.out.chg _)).trans HC8.out fun y hy => ?_
          rcases HFR.out y (mem_rowOf.1 hy) with h | h
          · exact Or.inl (mem_rowOf.2 h)
          · exact Or.inr h
        · intro q hq
          rcases HF8.out q hq with h | h
          · exact HFR.out q h
          · exact Or.inr (by have h1 := HCH.out.size; have h2 := HXX.out.size; omega)
      case measure => simp [intOf]; omega
end Go.Proofs.YtfjlglefodndjaaGreatDoor

namespace Go.Proofs.YtfjlglefodndjaaGreatDoor
open Go.RowKit

/-! wording.Valid of clauses. -/
def KwQ (k : Int) (w : World) (e : Ending) (w' : World) : Prop := ∃ s : ByteArray, e = .returned (.string s) ∧ s.toList.isEmpty = !decide (1 ≤ k ∧ k ≤ 10) ∧ w = w'
set_option maxRecDepth 100000 in
set_option maxHeartbeats 4000000 in
theorem keyword_calls (k : Int) (w : World) : Calls Tryz.prog 110 #[.int .i64 k] w (KwQ k w) := by
  by_cases h : 1 ≤ k ∧ k ≤ 10
  · have HD := Lib.hid (show (!decide (1 ≤ k ∧ k ≤ 10)) = false by rw [decide_eq_true h]; rfl)
    unfold KwQ
    rw [HD.out]
    clear HD
    have hk : k = 1 ∨ k = 2 ∨ k = 3 ∨ k = 4 ∨ k = 5 ∨ k = 6 ∨ k = 7 ∨ k = 8 ∨ k = 9 ∨ k = 10 := by omega
    clear h
    rcases hk with rfl | rfl | rfl | rfl | rfl | rfl | rfl | rfl | rfl | rfl
    all_goals
      go_enter Tryz.func110, Tryz.ntmps110
      go_wp2_with fail
      go_ret
      exact ⟨_, rfl, by decide +kernel, rfl⟩
  · have HD := Lib.hid (show (!decide (1 ≤ k ∧ k ≤ 10)) = true by rw [decide_eq_false h]; rfl)
    unfold KwQ
    rw [HD.out]
    have e1 : (k == 1) = false := by simp; omega
    have e2 : (k == 2) = false := by simp; omega
    have e3 : (k == 3) = false := by simp; omega
    have e4 : (k == 4) = false := by simp; omega
    have e5 : (k == 5) = false := by simp; omega
    have e6 : (k == 6) = false := by simp; omega
    have e7 : (k == 7) = false := by simp; omega
    have e8 : (k == 8) = false := by simp; omega
    have e9 : (k == 9) = false := by simp; omega
    have e10 : (k == 10) = false := by simp; omega
    clear h
    go_enter Tryz.func110, Tryz.ntmps110
    go_wp2_with fail
    go_ret
    exact ⟨_, rfl, by decide +kernel, rfl⟩
set_option maxRecDepth 100000 in
set_option maxHeartbeats 4000000 in
theorem greatest_calls (k : Int) (w : World) : Calls Tryz.prog 111 #[.int .i64 k] w (Gives (.int .i64 (mostOf k)) w) := by
  obtain ⟨E, hE⟩ : ∃ E, E = mostOf k := ⟨_, rfl⟩
  rw [← hE]
  by_cases h : k = 5 ∨ k = 6 ∨ k = 7 ∨ k = 10 ∨ k = 8
  · have HE := Lib.hid hE
    clear hE
    rcases h with rfl | rfl | rfl | rfl | rfl
    all_goals
      go_enter Tryz.func111, Tryz.ntmps111
      go_wp2_with fail
      go_ret
      exact gives_int (by rw [HE.out]; rfl)
  · have HE := Lib.hid (show E = 0 by rw [hE]; unfold mostOf; rw [if_neg (by omega), if_neg (by omega)])
    have e5 : (k == 5) = false := by simp; omega
    have e6 : (k == 6) = false := by simp; omega
    have e7 : (k == 7) = false := by simp; omega
    have e8 : (k == 8) = false := by simp; omega
    have e10 : (k == 10) = false := by simp; omega
    clear h hE
    go_enter Tryz.func111, Tryz.ntmps111
    go_wp2_with fail
    go_ret
    exact gives_int (by rw [HE.out])
theorem cnt_le_wbN : (l : List Wb) → cntBacks l ≤ wbN l
  | [] => by simp [cntBacks]
  | .mk n c u :: r => by
    have h1 := cnt_le_wbN u
    have h2 := cnt_le_wbN r
    rw [cntBacks, wbN]; omega
theorem wbN_le_of : (l : List Wb) → cntBacks l ≤ 40 → wbN l ≤ 40
  | [], _ => by simp [wbN]
  | .mk n c u :: r, h => by
    rw [cntBacks] at h
    have key : ∀ l : List Wb, cntBacks l ≤ 40 → wbN l ≤ cntBacks l := by
      intro l
      induction l using wbN.induct with
      | case1 => intro _; simp [wbN]
      | case2 n c u r ih1 ih2 =>
        intro h
        rw [cntBacks] at h ⊢
        have h1 := ih1 (by omega)
        have h2 := ih2 (by omega)
        rw [wbN]; omega
    have h1 := key u (by omega)
    have h2 := key r (by omega)
    rw [wbN]; omega
theorem cnt_iff (l : List Wb) : decide (cntBacks l ≤ 40) = decide (0 + wbN l ≤ 40) := by
  have h1 := cnt_le_wbN l
  have h2 := wbN_le_of l
  rw [decide_eq_decide]
  constructor
  · intro h; have := h2 h; omega
  · intro h; omega
theorem clauseB_eq (c : Cla) : clauseB c = (decide (1 ≤ c.kind ∧ c.kind ≤ 10) && nameB c.name && refExprB c.cond && (decide (c.unl.length = 0) || (c.kind == 3)) && (decide (min 1 (mostOf c.kind) ≤ c.amount) && decide (c.amount ≤ mostOf c.kind)) && (backsB 16 c.unl && decide (0 + wbN c.unl ≤ 40))) := by
  have hm : 0 ≤ mostOf c.kind := by unfold mostOf; split <;> (try split) <;> omega
  have h1 : ((decide (mostOf c.kind = 0) && (c.amount == 0)) || (decide (0 < mostOf c.kind) && decide (1 ≤ c.amount) && decide (c.amount ≤ mostOf c.kind))) = (decide (min 1 (mostOf c.kind) ≤ c.amount) && decide (c.amount ≤ mostOf c.kind)) := by
    generalize mostOf c.kind = m at *
    generalize c.amount = a
    rw [Bool.eq_iff_iff]
    simp only [Bool.or_eq_true, Bool.and_eq_true, decide_eq_true_eq, beq_iff_eq]
    omega
  unfold clauseB
  rw [h1, cnt_iff]
  have h2 : (decide (1 ≤ c.kind) && decide (c.kind ≤ 10)) = decide (1 ≤ c.kind ∧ c.kind ≤ 10) := by simp
  rw [h2]
  generalize (decide (min 1 (mostOf c.kind) ≤ c.amount) && decide (c.amount ≤ mostOf c.kind)) = A
  by_cases hl : c.unl.length = 0
  · have : c.unl = [] := List.eq_nil_of_length_eq_zero hl
    rw [this]
    simp [backsB, wbN]
  · simp only [hl, decide_false, Bool.false_or]
    cases decide (1 ≤ c.kind ∧ c.kind ≤ 10) <;> cases nameB c.name <;> cases refExprB c.cond <;> cases (c.kind == 3) <;> cases decide (0 + wbN c.unl ≤ 40) <;> cases backsB 16 c.unl <;> cases A <;> rfl
set_option maxRecDepth 100000 in
set_option maxHeartbeats 8000000 in
theorem sclause_calls (c : Cla) (v : ClV) (w : World) (hc : IsCla w c v) (ho : HasOps w) (hok : c.fit) :
    Calls Tryz.prog 100 #[.agg #[.int .i64 v.kind, .string v.name, .int .i64 v.x.op, .string v.x.name, .slice v.x.aw v.x.nw v.x.cw, .int .i64 v.x.lo, .int .i64 v.x.hi, .slice v.x.aa v.x.na v.x.ca, .slice v.au v.nu v.cu, .int .i64 v.amount]] w (GivesE (.bool (clauseB c)) w) := by
  obtain ⟨hk, hnm, hex, hnu, -, -, hwb, ham⟩ := hc
  obtain ⟨ho1, ho2, ho3, ho4, ho5, ho6⟩ := hok
  rw [hk, hnm, ham]
  have HEX := Lib.hid hex
  have HWB := Lib.hid hwb
  have HNU := Lib.hid hnu
  have HO := Lib.hid ho
  have HO2 := Lib.hid ho2
  have HO6 := Lib.hid ho6
  have hnu2 : v.nu ≤ 1000000000000000 := by rw [hnu]; exact ho5
  obtain ⟨R, hR⟩ : ∃ R, R = clauseB c := ⟨_, rfl⟩
  rw [← hR]
  rw [clauseB_eq] at hR
  have HR := Lib.hid hR
  clear hk hnm hex hnu hwb ham ho2 ho3 ho4 ho5 ho6 hR ho
  obtain ⟨kind, name, cond, unl, amount⟩ := c
  simp only at *
  obtain ⟨vk, vn, x, au, nu, cu, va⟩ := v
  simp only at *
  obtain ⟨wa, hwa⟩ : ∃ wa, wa = w.alloc (.cells #[.int .i64 kind, .string name, .int .i64 x.op, .string x.name, .slice x.aw x.nw x.cw, .int .i64 x.lo, .int .i64 x.hi, .slice x.aa x.na x.ca, .slice au nu cu, .int .i64 amount] 38) := ⟨_, rfl⟩
  have hxa : Ext w wa := by rw [hwa]; exact (Ext.refl _).alloc _
  have hb : wa.heap[w.heap.size]? = some (.cells #[.int .i64 kind, .string name, .int .i64 x.op, .string x.name, .slice x.aw x.nw x.cw, .int .i64 x.lo, .int .i64 x.hi, .slice x.aa x.na x.ca, .slice au nu cu, .int .i64 amount] 38 (0, 0)) := by rw [hwa]; exact alloc_new w _
  have HXA := Lib.hid hxa
  have HB := Lib.hid hb
  obtain ⟨b0, b1, b2, b3, b4, b5, b6, b7, b8, b9, bf⟩ := blk10r hb
  have hltw := blk_lt hb
  clear hxa hb
  go_enter Tryz.func100, Tryz.ntmps100
  go_upto_region 1 with fail
  rw [← hwa]
  clear hwa
  go_wp2_with fail
  refine (keyword_calls kind wa).mono ?_
  rintro r w1 ⟨s, rfl, hs, rfl⟩
  cases hkd : decide (1 ≤ kind ∧ kind ≤ 10)
  · rw [hkd] at hs HR
    have HF := Lib.hid (show R = false by rw [HR.out]; rfl)
    have hs2 : s.toList.isEmpty = true := hs
    clear hs hkd
    go_wp2_with fail
    go_ret
    exact givesE_b (by rw [HF.out]) HXA.out
  rw [hkd] at hs HR
  have hs2 : s.toList.isEmpty = false := hs
  rw [Bool.true_and] at HR
  clear hs hkd
  go_wp2_with fail
  refine (name_calls _ _ ho1).mono ?_
  rintro r w1 ⟨rfl, rfl⟩
  cases hnb : nameB name
  · rw [hnb] at HR
    have HF := Lib.hid (show R = false by rw [HR.out]; rfl)
    clear hnb
    go_wp2_with fail
    go_ret
    exact givesE_b (by rw [HF.out]) HXA.out
  rw [hnb, Bool.true_and] at HR
  clear hnb
  go_wp2_with fail
  refine (Valid_calls cond _ _ (HEX.out.ext HXA.out) (HO.out.ext HXA.out) HO2.out).mono ?_
  rintro r w2 ⟨rfl, hx2⟩
  rw [validB_ref]
  have HX2 := Lib.hid (HXA.out.trans hx2)
  have HB2 := Lib.hid (hx2.blk HB.out)
  clear hx2 b0 b1 b2 b3 b4 b5 b6 b7 b8 b9 bf hltw
  obtain ⟨b0, b1, b2, b3, b4, b5, b6, b7, b8, b9, bf⟩ := blk10r HB2.out
  have hltw := blk_lt HB2.out
  cases hxb : refExprB cond
  · rw [hxb] at HR
    have HF := Lib.hid (show R = false by rw [HR.out]; rfl)
    clear hxb
    go_wp2_with fail
    go_ret
    exact givesE_b (by rw [HF.out]) HX2.out
  rw [hxb, Bool.true_and] at HR
  clear hxb
  by_cases hbad : kind ≠ 3 ∧ 0 < nu
  · obtain ⟨h3, h0⟩ := hbad
    have t3 : (kind != 3) = true := by simp [h3]
    have t0 : decide ((0 : Int) < (nu : Int)) = true := decide_eq_true (by omega)
    have HF := Lib.hid (show R = false by
      have e0 : decide (unl.length = 0) = false := decide_eq_false (by have := HNU.out; omega)
      have e3 : (kind == 3) = false := by simp [h3]
      rw [HR.out, e0, e3]; rfl)
    clear h3
    go_wp2_with fail
    go_ret
    exact givesE_b (by rw [HF.out]) HX2.out
  have HR2 := Lib.hid (show R = (decide (min 1 (mostOf kind) ≤ amount) && decide (amount ≤ mostOf kind) && (backsB 16 unl && decide (0 + wbN unl ≤ 40))) by
    rw [HR.out]
    by_cases h0 : nu = 0
    · have e0 : decide (unl.length = 0) = true := decide_eq_true (by have := HNU.out; omega)
      rw [e0]; simp
    · have e3 : (kind == 3) = true := by
        by_cases h3 : kind = 3
        · simp [h3]
        · exact absurd ⟨h3, by omega⟩ hbad
      rw [e3]; simp)
  clear HR
  obtain ⟨M, hM⟩ : ∃ M, M = mostOf kind := ⟨_, rfl⟩
  have hM0 : 0 ≤ M ∧ M ≤ 1073741824 := by rw [hM]; unfold mostOf; split <;> (try split) <;> omega
  rw [← hM] at HR2
  have HM := Lib.hid hM
  clear hM
  obtain ⟨hM0, hM1⟩ := hM0
  by_cases h3 : kind = 3
  case' pos =>
    have t3 : (kind != 3) = false := by simp [h3]
    clear hbad h3
  case' neg =>
    have t3 : (kind != 3) = true := by simp [h3]
    have hn0 : nu = 0 := by
      rcases Nat.eq_zero_or_pos nu with h | h
      · exact h
      · exact absurd ⟨h3, h⟩ hbad
    have t0 : decide ((0 : Int) < (nu : Int)) = false := decide_eq_false (by omega)
    have t00 : decide (0 < nu) = false := decide_eq_false (by omega)
    clear hbad h3 hn0
  all_goals
    go_wp2_with fail
    refine (greatest_calls kind w2).mono ?_
    rintro r w3 ⟨rfl, rfl⟩
    rw [← HM.out]
    clear HM
    rcases (show M = 0 ∨ 1 ≤ M by omega) with h0 | h1
    case inl =>
      subst h0
      have hmin : min (1 : Int) 0 = 0 := by decide
      by_cases hlo : amount < 0
      · have t4 : decide (amount < 0) = true := decide_eq_true hlo
        have HF := Lib.hid (show R = false by
          have : decide (min 1 0 ≤ amount) = false := decide_eq_false (by omega)
          rw [HR2.out, this]; rfl)
        clear hlo
        go_wp2_with fail
        go_ret
        exact givesE_b (by rw [HF.out]) HX2.out
      have t4 : decide (amount < 0) = false := decide_eq_false hlo
      by_cases hhi : 0 < amount
      · have t5 : decide (0 < amount) = true := decide_eq_true hhi
        have HF := Lib.hid (show R = false by
          have : decide (amount ≤ 0) = false := decide_eq_false (by omega)
          rw [HR2.out, this]; simp)
        clear hlo hhi
        go_wp2_with fail
        go_ret
        exact givesE_b (by rw [HF.out]) HX2.out
      have t5 : decide (0 < amount) = false := decide_eq_false hhi
      have HR3 := Lib.hid (show R = (backsB 16 unl && decide (0 + wbN unl ≤ 40)) by
        have e1 : decide (min 1 0 ≤ amount) = true := decide_eq_true (by omega)
        have e2 : decide (amount ≤ 0) = true := decide_eq_true (by omega)
        rw [HR2.out, e1, e2]; rfl)
      clear hlo hhi HR2
      go_wp2_with fail
      have HWF := Lib.hid (writeBacks_calls HO.out (wbN unl + 1) unl au _ cu 1 0 w2.heap.size (w2.alloc (.cells #[.int .i64 0] 3)) (by omega) hnu2 HO6.out (by omega) (by omega) (by omega) HNU.out
        (WbsD.mono (fun p v hp => by
          have hlt : p.block < w2.heap.size := block_lt (HX2.out.cell hp)
          rw [mask_cell, if_neg (by simp; omega)]
          exact ((Ext.refl w2).alloc _).cell (HX2.out.cell hp)) _ _ HWB.out) (HX2.out.alloc _) HX2.out.size (alloc_new w2 _))
      refine HWF.out.mono ?_
      rintro r w4 ⟨m4, rfl, -, -, -, hch⟩
      have HX4 := Lib.hid (hch.ext (HX2.out.alloc _) (by have := HX2.out.size; simpa using this))
      clear hch
      go_wp2_with fail
      go_ret
      exact givesE_b (by rw [HR3.out, Nat.zero_add]) HX4.out
    have t6 : decide (1 ≤ M) = true := decide_eq_true h1
    have hmin : min (1 : Int) M = 1 := by omega
    by_cases hlo : amount < 1
    · have t4 : decide (amount < 1) = true := decide_eq_true hlo
      have HF := Lib.hid (show R = false by
        have : decide (min 1 M ≤ amount) = false := decide_eq_false (by omega)
        rw [HR2.out, this]; rfl)
      clear hlo
      go_wp2_with fail
      go_ret
      exact givesE_b (by rw [HF.out]) HX2.out
    have t4 : decide (amount < 1) = false := decide_eq_false hlo
    by_cases hhi : M < amount
    · have t5 : decide (M < amount) = true := decide_eq_true hhi
      have HF := Lib.hid (show R = false by
        have : decide (amount ≤ M) = false := decide_eq_false (by omega)
        rw [HR2.out, this]; simp)
      clear hlo hhi
      go_wp2_with fail
      go_ret
      exact givesE_b (by rw [HF.out]) HX2.out
    have t5 : decide (M < amount) = false := decide_eq_false hhi
    have HR3 := Lib.hid (show R = (backsB 16 unl && decide (0 + wbN unl ≤ 40)) by
      have e1 : decide (min 1 M ≤ amount) = true := decide_eq_true (by omega)
      have e2 : decide (amount ≤ M) = true := decide_eq_true (by omega)
      rw [HR2.out, e1, e2]; rfl)
    clear hlo hhi HR2
    go_wp2_with fail
    have HWF := Lib.hid (writeBacks_calls HO.out (wbN unl + 1) unl au _ cu 1 0 w2.heap.size (w2.alloc (.cells #[.int .i64 0] 3)) (by omega) hnu2 HO6.out (by omega) (by omega) (by omega) HNU.out
      (WbsD.mono (fun p v hp => by
        have hlt : p.block < w2.heap.size := block_lt (HX2.out.cell hp)
        rw [mask_cell, if_neg (by simp; omega)]
        exact ((Ext.refl w2).alloc _).cell (HX2.out.cell hp)) _ _ HWB.out) (HX2.out.alloc _) HX2.out.size (alloc_new w2 _))
    refine HWF.out.mono ?_
    rintro r w4 ⟨m4, rfl, -, -, -, hch⟩
    have HX4 := Lib.hid (hch.ext (HX2.out.alloc _) (by have := HX2.out.size; simpa using this))
    clear hch
    go_wp2_with fail
    go_ret
    exact givesE_b (by rw [HR3.out, Nat.zero_add]) HX4.out
end Go.Proofs.YtfjlglefodndjaaGreatDoor

namespace Go.Proofs.YtfjlglefodndjaaGreatDoor
open Go.RowKit

/-! wording.clauses, and wording.Valid of a wording without endorsements. -/
def clausesB (l : List Cla) : Bool := decide (l.length ≤ 40) && l.all clauseB
set_option maxRecDepth 100000 in
set_option maxHeartbeats 4000000 in
theorem sclauses_calls (l : List Cla) (a : Option Addr) (n c : Nat) (w : World) (hl : IsClas w l a n c) (ho : HasOps w) (hok : ∀ x ∈ l, x.fit) (hn : n ≤ 1000000000000000) :
    Calls Tryz.prog 87 #[.slice a n c] w (GivesE (.bool (clausesB l)) w) := by
  have HL := Lib.hid hl
  have HN := Lib.hid hl.len
  have HO := Lib.hid ho
  have HOK := Lib.hid hok
  obtain ⟨R, hR⟩ : ∃ R, R = clausesB l := ⟨_, rfl⟩
  rw [← hR]
  have HR := Lib.hid (show R = (decide (l.length ≤ 40) && l.all clauseB) from hR)
  clear hl ho hok hR
  by_cases h40 : 40 < n
  · have t0 : decide ((40 : Int) < (n : Int)) = true := decide_eq_true (by omega)
    have HF := Lib.hid (show R = false by rw [HR.out, decide_eq_false (by have := HN.out; omega)]; rfl)
    go_enter Tryz.func87, Tryz.ntmps87
    go_wp2_with fail
    go_ret
    exact givesE_b (by rw [HF.out]) (Ext.refl _)
  have t0 : decide ((40 : Int) < (n : Int)) = false := decide_eq_false (by omega)
  have HR2 := Lib.hid (show R = l.all clauseB by rw [HR.out, decide_eq_true (by have := HN.out; omega)]; rfl)
  clear HR
  go_enter Tryz.func87, Tryz.ntmps87
  go_wp2_with fail
  go_loopw [10] (fun t wr => ∃ k : Nat, t = .int .i64 k ∧ k ≤ n ∧ (∀ j (h : j < l.length), j < k → clauseB l[j] = true) ∧ Ext w wr) (fun t _ => n - (intOf t).toNat)
  case atStart => exact ⟨0, rfl, by omega, fun j _ h => by omega, Ext.refl _⟩
  case round =>
    obtain ⟨k, rfl, hk, hall, hxr⟩ := hrel
    have HALL := Lib.hid hall
    have HXR := Lib.hid hxr
    clear hall hxr
    by_cases hkn : k < n
    · have hkl : k < l.length := by have := HN.out; omega
      have t1 : decide ((k : Int) < (n : Int)) = true := decide_eq_true (by omega)
      obtain ⟨b, off, v, rfl, hcla, hrow⟩ := (HL.out.ext HXR.out).at hkl
      obtain ⟨c0, c1, c2, c3, c4, c5, c6, c7, c8, c9⟩ := hrow.ten
      have HC := Lib.hid (fun (W : World) (hW : Ext wr W) => sclause_calls l[k] v W (hcla.mono hW.sub) (HO.out.ext (HXR.out.trans hW)) (HOK.out _ (List.getElem_mem hkl)))
      clear hcla hrow
      cases hcb : clauseB l[k]
      · have HCB := Lib.hid hcb
        have HF := Lib.hid (show R = false by
          rw [HR2.out, List.all_eq_false]
          exact ⟨l[k], List.getElem_mem hkl, by rw [hcb]; simp⟩)
        clear hcb
        go_wp2_with fail
        refine (HC.out _ ((Ext.refl wr).alloc _)).mono ?_
        rintro r w3 ⟨rfl, hx3⟩
        rw [HCB.out]
        have HX3 := Lib.hid ((HXR.out.alloc _).trans hx3)
        clear hx3 c0 c1 c2 c3 c4 c5 c6 c7 c8 c9
        go_wp2_with fail
        go_ret
        exact givesE_b (by rw [HF.out]) HX3.out
      · have HCB := Lib.hid hcb
        clear hcb
        go_wp2_with fail
        refine (HC.out _ ((Ext.refl wr).alloc _)).mono ?_
        rintro r w3 ⟨rfl, hx3⟩
        rw [HCB.out]
        have HX3 := Lib.hid ((HXR.out.alloc _).trans hx3)
        clear hx3 c0 c1 c2 c3 c4 c5 c6 c7 c8 c9
        go_wp2_with fail
        go_roundw
        case rel =>
          refine ⟨k + 1, by go_num, by omega, fun j hj hjk => ?_, HX3.out⟩
          by_cases e : j = k
          · subst e; exact HCB.out
          · exact HALL.out j hj (by omega)
        case measure => simp [intOf]; omega
    · have t1 : decide ((k : Int) < (n : Int)) = false := decide_eq_false (by omega)
      have HF := Lib.hid (show R = true by
        rw [HR2.out, List.all_eq_true]
        intro x hx
        obtain ⟨j, hj, rfl⟩ := List.mem_iff_getElem.1 hx
        exact HALL.out j hj (by have := HN.out; omega))
      go_wp2_with fail
      go_ret
      exact givesE_b (by rw [HF.out]) HXR.out
set_option maxRecDepth 100000 in
set_option maxHeartbeats 4000000 in
theorem sValid1_calls (l : List Cla) (a : Option Addr) (n c : Nat) (w : World) (hl : IsClas w l a n c) (ho : HasOps w) (hok : ∀ x ∈ l, x.fit) (hn : n ≤ 1000000000000000) :
    Calls Tryz.prog 59 #[.agg #[.slice a n c, .slice none 0 0]] w (GivesE (.bool (clausesB l)) w) := by
  obtain ⟨wa, hwa⟩ : ∃ wa, wa = w.alloc (.cells #[.slice a n c, .slice none 0 0] 102) := ⟨_, rfl⟩
  have hxa : Ext w wa := by rw [hwa]; exact (Ext.refl _).alloc _
  have hb : wa.heap[w.heap.size]? = some (.cells #[.slice a n c, .slice none 0 0] 102 (0, 0)) := by rw [hwa]; exact alloc_new w _
  obtain ⟨b0, b1, bf⟩ := blk2 hb
  have hltw := blk_lt hb
  have HXA := Lib.hid hxa
  have HB := Lib.hid hb
  have HC := Lib.hid (sclauses_calls l a n c wa (hl.ext hxa) (ho.ext hxa) hok hn)
  obtain ⟨R, hR⟩ : ∃ R, R = clausesB l := ⟨_, rfl⟩
  rw [← hR] at HC ⊢
  clear hl ho hok hR hxa hb
  go_enter Tryz.func59, Tryz.ntmps59
  go_upto_region 1 with fail
  rw [← hwa]
  clear hwa
  go_wp2_with fail
  refine HC.out.mono ?_
  rintro r w3 ⟨rfl, hx3⟩
  have HX3 := Lib.hid (HXA.out.trans hx3)
  have HB3 := Lib.hid (hx3.blk HB.out)
  clear hx3 b0 b1 bf hltw
  obtain ⟨b0, b1, bf⟩ := blk2 HB3.out
  have hltw := blk_lt HB3.out
  cases R
  · go_wp2_with fail
    go_ret
    exact givesE_b rfl HX3.out
  · go_wp2_with fail
    go_loop [18] (fun t => t = .int .i64 0) (fun _ => 0)
    case atStart => exact rfl
    case round =>
      subst hrel
      go_wp2_with fail
      go_ret
      exact givesE_b rfl HX3.out
theorem isCla_one {w : World} {g : Nat} {v : ClV} {x : Cla} {t : TypeId} (h : w.heap[g]? = some (.cells v.cells.toArray t (0, 0))) (hx : IsCla w x v) : IsClas w [x] (some ⟨g, 0, none⟩) 1 1 := by
  refine ⟨[v], ⟨rfl, Nat.le_refl _, Or.inr ⟨g, 0, rfl⟩, fun i hi => ⟨g, 0, rfl, fun j hj => ?_⟩⟩, rfl, fun i h1 h2 => ?_⟩
  · obtain rfl : i = 0 := by simp at hi; omega
    rw [blk_cell h]
    simp only [List.getElem_cons_zero, Nat.zero_mul, Nat.zero_add, Nat.add_zero] at hj ⊢
    simp [hj]
  · obtain rfl : i = 0 := by simp at h1; omega
    exact hx
theorem clausesB_one (c : Cla) : clausesB [c] = clauseB c := by simp [clausesB]
end Go.Proofs.YtfjlglefodndjaaGreatDoor

namespace Go.Proofs.YtfjlglefodndjaaGreatDoor
open Go.RowKit

/-! The program's schema.Validate. -/
/-- The error of an attribute's words. -/
def wordsErr (l : List ByteArray) : Int := if l.length = 0 then 19 else if 12 < l.length then 4 else if l.all nameB = false then 6 else if decide l.Nodup = false then 8 else 0
theorem attrErr_word (a : Attr) (h : a.kind = 1) : attrErr a = if a.lo ≠ 0 ∨ a.hi ≠ 0 then 20 else wordsErr a.words := by
  unfold attrErr wordsErr; rw [if_pos h]
theorem nodup_snoc {l : List ByteArray} {k : Nat} (hk : k < l.length) (h : (l.take k).Nodup) (h2 : l[k] ∉ l.take k) : (l.take (k + 1)).Nodup := by
  rw [List.take_succ_eq_append_getElem hk, List.nodup_append]
  exact ⟨h, by simp, fun a ha b hb => by simp at hb; subst hb; intro e; subst e; exact h2 ha⟩
theorem not_nodup {l : List ByteArray} {k : Nat} (hk : k < l.length) (h : l[k] ∈ l.take k) : ¬ l.Nodup := by
  intro h4
  have : (l.take (k + 1)).Nodup := h4.sublist (List.take_sublist _ _)
  rw [List.take_succ_eq_append_getElem hk, List.nodup_append] at this
  exact absurd rfl (this.2.2 _ h _ (by simp))
set_option maxRecDepth 100000 in
set_option maxHeartbeats 4000000 in
theorem swords_calls (l : List ByteArray) (a : Option Addr) (n c : Nat) (w : World) (hl : IsStrs w l a n c) (hn2 : n ≤ 1000000000000000) (hsz : ∀ x ∈ l, x.size ≤ 1000000000000000) :
    Calls Tryz.prog 77 #[.slice a n c] w (Gives (.int .i64 (wordsErr l)) w) := by
  have HL := Lib.hid hl
  have HZ := Lib.hid hsz
  have HN := Lib.hid hl.1
  have hnc := hl.2.1
  clear hl hsz
  by_cases h0 : n = 0
  · have H := Lib.hid (show wordsErr l = 19 by unfold wordsErr; rw [if_pos (by have := HN.out; omega)])
    have hz : ((n : Int) == 0) = true := by simp [h0]
    clear h0
    go_enter Tryz.func77, Tryz.ntmps77
    go_wp2_with fail
    go_ret
    exact gives_int (by rw [H.out])
  have hz : ((n : Int) == 0) = false := by simp [h0]
  by_cases h12 : 12 < n
  · have H := Lib.hid (show wordsErr l = 4 by unfold wordsErr; rw [if_neg (by have := HN.out; omega), if_pos (by have := HN.out; omega)])
    have t12 : decide ((12 : Int) < (n : Int)) = true := decide_eq_true (by omega)
    go_enter Tryz.func77, Tryz.ntmps77
    go_wp2_with fail
    go_ret
    exact gives_int (by rw [H.out])
  have t12 : decide ((12 : Int) < (n : Int)) = false := decide_eq_false (by omega)
  have HE := Lib.hid (show wordsErr l = if l.all nameB = false then 6 else if decide l.Nodup = false then 8 else 0 by unfold wordsErr; rw [if_neg (by have := HN.out; omega), if_neg (by have := HN.out; omega)])
  obtain ⟨E, hE⟩ : ∃ E, E = wordsErr l := ⟨_, rfl⟩
  rw [← hE] at HE ⊢
  clear hE
  go_enter Tryz.func77, Tryz.ntmps77
  go_wp2_with fail
  go_loop [15] (fun t => ∃ k : Nat, t = .int .i64 k ∧ k ≤ n ∧ ∀ j (h : j < l.length), j < k → nameB l[j] = true) (fun t => n - (intOf t).toNat)
  case atStart => exact ⟨0, rfl, by omega, fun j _ h => by omega⟩
  case round =>
    obtain ⟨k, rfl, hk, hall⟩ := hrel
    have HA := Lib.hid hall
    clear hall
    by_cases hlt : k < n
    · have hlt' : k < l.length := by have := HN.out; omega
      have t1 : decide ((k : Int) < (n : Int)) = true := decide_eq_true (by omega)
      have hsk := HZ.out _ (List.getElem_mem hlt')
      obtain ⟨b, off, rfl, hcell⟩ := HL.out.2.2.2 k hlt'
      cases h3 : nameB l[k]
      · have H := Lib.hid (show E = 6 by
          rw [HE.out, if_pos]
          rw [List.all_eq_false]
          exact ⟨l[k], List.getElem_mem hlt', by rw [h3]; simp⟩)
        have H3 := Lib.hid h3
        clear h3
        go_wp2_with fail
        refine (name_calls _ _ hsk).mono ?_
        rintro e w' ⟨rfl, rfl⟩
        rw [H3.out]
        go_wp2_with fail
        go_ret
        exact gives_int (by rw [H.out])
      · have H3 := Lib.hid h3
        clear h3
        go_wp2_with fail
        refine (name_calls _ _ hsk).mono ?_
        rintro e w' ⟨rfl, rfl⟩
        rw [H3.out]
        go_wp2_with fail
        go_round
        case rel =>
          refine ⟨k + 1, by go_num, by omega, fun j hj hjk => ?_⟩
          by_cases e : j = k
          · subst e; exact H3.out
          · exact HA.out j hj (by omega)
        case measure => simp [intOf]; omega
    · have t1 : decide ((k : Int) < (n : Int)) = false := decide_eq_false (by omega)
      have HE2 := Lib.hid (show E = if decide l.Nodup = false then 8 else 0 by
        rw [HE.out, if_neg]
        rw [Bool.not_eq_false, List.all_eq_true]
        intro x hx
        obtain ⟨j, hj, rfl⟩ := List.mem_iff_getElem.1 hx
        exact HA.out j hj (by have := HN.out; omega))
      clear HE HA
      go_wp2_with fail
      go_loop [25] (fun t => ∃ k : Nat, t = .int .i64 k ∧ k ≤ n ∧ (l.take k).Nodup) (fun t => n - (intOf t).toNat)
      case atStart => exact ⟨0, rfl, by omega, by simp⟩
      case round =>
        obtain ⟨m, rfl, hm, hno⟩ := hrel
        have HNO := Lib.hid hno
        clear hno
        by_cases hmt : m < n
        · have hmt' : m < l.length := by have := HN.out; omega
          have t2 : decide ((m : Int) < (n : Int)) = true := decide_eq_true (by omega)
          have HT := Lib.hid (HL.out.take hm)
          obtain ⟨b, off, rfl, hcell⟩ := HL.out.2.2.2 m hmt'
          by_cases h4 : l[m] ∈ l.take m
          · have H := Lib.hid (show E = 8 by rw [HE2.out, if_pos (by simpa using not_nodup hmt' h4)])
            have H4 := Lib.hid h4
            clear h4
            go_wp2_with fail
            refine (contains_calls _ _ _ _ _ _ (by omega) HT.out).mono ?_
            rintro e w' ⟨rfl, rfl⟩
            rw [decide_eq_true H4.out]
            go_wp2_with fail
            go_ret
            exact gives_int (by rw [H.out])
          · have H4 := Lib.hid h4
            clear h4
            go_wp2_with fail
            refine (contains_calls _ _ _ _ _ _ (by omega) HT.out).mono ?_
            rintro e w' ⟨rfl, rfl⟩
            rw [decide_eq_false H4.out]
            go_wp2_with fail
            go_round
            case rel => exact ⟨m + 1, by go_num, by omega, nodup_snoc hmt' HNO.out H4.out⟩
            case measure => simp [intOf]; omega
        · have t2 : decide ((m : Int) < (n : Int)) = false := decide_eq_false (by omega)
          have H := Lib.hid (show E = 0 by
            have h5 := HNO.out
            rw [List.take_of_length_le (by have := HN.out; omega)] at h5
            rw [HE2.out, if_neg (by simpa using h5)])
          go_wp2_with fail
          go_ret
          exact gives_int (by rw [H.out])
theorem numberB_iff (n : Int) : numberB n = false ↔ n < -1000000000 ∨ 1000000000 < n := by simp [numberB]; omega
set_option maxRecDepth 100000 in
set_option maxHeartbeats 4000000 in
theorem sattr_calls (x : Attr) (aw : Option Addr) (nw cw : Nat) (w : World) (hw : IsStrs w x.words aw nw cw) (hf : x.fits) :
    Calls Tryz.prog 51 #[.agg #[.string x.name, .int .i64 x.kind, .slice aw nw cw, .int .i64 x.lo, .int .i64 x.hi]] w (GivesE (.int .i64 (attrErr x)) w) := by
  have HW := Lib.hid hw
  have HF := Lib.hid hf
  have hnw := hw.1
  have hnl : nw ≤ 1000000000000000 := by rw [hnw]; exact hf.2.1
  have HNW := Lib.hid hnw
  clear hw hf hnw
  obtain ⟨name, kind, words, lo, hi⟩ := x
  simp only at *
  obtain ⟨E, hE⟩ : ∃ E, E = attrErr ⟨name, kind, words, lo, hi⟩ := ⟨_, rfl⟩
  rw [← hE]
  by_cases h1 : kind = 1
  · subst h1
    rw [attrErr_word _ rfl] at hE
    simp only at hE
    have HE := Lib.hid hE
    clear hE
    have HWC := Lib.hid (swords_calls words aw nw cw (w.alloc (.cells #[.string name, .int .i64 1, .slice aw nw cw, .int .i64 lo, .int .i64 hi] 91)) (HW.out.ext ((Ext.refl w).alloc _)) hnl HF.out.2.2)
    by_cases hlo : lo = 0
    · have t1 : (lo != 0) = false := by simp [hlo]
      by_cases hhi : hi = 0
      · have t2 : (hi != 0) = false := by simp [hhi]
        have HQ := Lib.hid (show E = wordsErr words by rw [HE.out, if_neg (by simp [hlo, hhi])])
        clear HE hlo hhi
        go_enter Tryz.func51, Tryz.ntmps51
        go_wp2_with fail
        refine HWC.out.mono ?_
        rintro e w' ⟨rfl, rfl⟩
        go_wp2_with fail
        go_ret
        exact givesE_of (by rw [HQ.out]) ((Ext.refl w).alloc _)
      · have t2 : (hi != 0) = true := by simp [hhi]
        have HQ := Lib.hid (show E = 20 by rw [HE.out, if_pos (Or.inr hhi)])
        clear HE hlo hhi
        go_enter Tryz.func51, Tryz.ntmps51
        go_wp2_with fail
        go_ret
        exact givesE_of (by rw [HQ.out]) ((Ext.refl w).alloc _)
    · have t1 : (lo != 0) = true := by simp [hlo]
      have HQ := Lib.hid (show E = 20 by rw [HE.out, if_pos (Or.inl hlo)])
      clear HE hlo
      go_enter Tryz.func51, Tryz.ntmps51
      go_wp2_with fail
      go_ret
      exact givesE_of (by rw [HQ.out]) ((Ext.refl w).alloc _)
  · have e1 : (kind == 1) = false := by simp [h1]
    by_cases h2 : kind = 2
    · subst h2
      have HE := Lib.hid (show E = if 0 < nw then 20 else if hi < lo ∨ (lo < -1000000000 ∨ 1000000000 < lo) ∨ (hi < -1000000000 ∨ 1000000000 < hi) then 1 else 0 by
        rw [hE]
        have k1 := numberB_iff lo
        have k2 := numberB_iff hi
        simp only [attrErr, farB, Bool.not_eq_true', k1, k2]
        rw [if_neg (by omega), if_pos trivial, ← HNW.out])
      clear hE
      go_enter Tryz.func51, Tryz.ntmps51
      go_wp2_with fail
      all_goals (go_ret; exact givesE_of (by rw [HE.out]; simp_all <;> omega) ((Ext.refl w).alloc _))
    · have e2 : (kind == 2) = false := by simp [h2]
      by_cases h3 : kind = 3
      · subst h3
        have HE := Lib.hid (show E = if 0 < nw ∨ lo ≠ 0 ∨ hi ≠ 0 then 20 else 0 by
          rw [hE]
          simp only [attrErr]
          rw [if_neg (by omega), if_neg (by omega), if_pos trivial, ← HNW.out])
        clear hE
        go_enter Tryz.func51, Tryz.ntmps51
        go_wp2_with fail
        all_goals (go_ret; exact givesE_of (by rw [HE.out]; simp_all <;> omega) ((Ext.refl w).alloc _))
      · have e3 : (kind == 3) = false := by simp [h3]
        have HE := Lib.hid (show E = 11 by
          rw [hE]
          simp only [attrErr]
          rw [if_neg h1, if_neg h2, if_neg h3])
        clear hE
        go_enter Tryz.func51, Tryz.ntmps51
        go_wp2_with fail
        go_ret
        exact givesE_of (by rw [HE.out]) ((Ext.refl w).alloc _)
/-- The first attribute of a's name comes before a. -/
theorem attr_dup {s : List Attr} {k : Nat} (hk : k < s.length) : ∃ f, attrAt s s[k].name = some f ∧ f ≤ k ∧ ((s.take k).any (fun b => decide (b.name = s[k].name)) = decide (f < k)) := by
  cases h : attrAt s s[k].name with
  | none =>
    unfold attrAt at h
    rw [List.findIdx?_eq_none_iff] at h
    have := h s[k] (List.getElem_mem hk)
    simp at this
  | some f =>
    unfold attrAt at h
    rw [List.findIdx?_eq_some_iff_getElem] at h
    obtain ⟨hf, h1, h2⟩ := h
    have hfk : f ≤ k := by
      rcases Nat.lt_or_ge k f with h3 | h3
      · have := h2 k h3
        simp at this
      · exact h3
    refine ⟨f, rfl, hfk, ?_⟩
    by_cases h3 : f < k
    · rw [decide_eq_true h3, List.any_eq_true]
      exact ⟨s[f], List.mem_iff_getElem.2 ⟨f, by simp; omega, by simp⟩, h1⟩
    · rw [decide_eq_false h3, List.any_eq_false]
      intro y hy
      obtain ⟨j, hj, rfl⟩ := List.mem_iff_getElem.1 hy
      have hjk : j < k := by simp at hj; omega
      have := h2 j (by omega)
      simpa using this
set_option maxRecDepth 100000 in
set_option maxHeartbeats 4000000 in
theorem sValidate_calls (s : List Attr) (v : Value) (w : World) (hs : IsSchema w s v) (hf : ∀ x ∈ s, x.fits) (hl : s.length ≤ 1000000000000000) :
    Calls Tryz.prog 23 #[v] w (GivesE (.int .i64 (schemaErr s)) w) := by
  obtain ⟨a, n, c, rfl, hn, hnc, hoa, hat⟩ := hs.parts
  have HS := Lib.hid hs
  have HN := Lib.hid hn
  have HF := Lib.hid hf
  have hn2 : n ≤ 1000000000000000 := by omega
  clear hs hn hat hnc hoa hf
  by_cases h0 : n = 0
  · have t0 : ((n : Int) == 0) = true := by simp [h0]
    have HE := Lib.hid (show schemaErr s = 19 by unfold schemaErr; rw [← HN.out, if_pos h0])
    clear h0
    go_enter Tryz.func23, Tryz.ntmps23
    go_wp2_with fail
    go_ret
    exact givesE_of (by rw [HE.out]) ((Ext.refl w).alloc _)
  have t0 : ((n : Int) == 0) = false := by simp [h0]
  by_cases h6 : 6 < n
  · have t6 : decide ((6 : Int) < (n : Int)) = true := decide_eq_true (by omega)
    have HE := Lib.hid (show schemaErr s = 4 by unfold schemaErr; rw [← HN.out, if_neg h0, if_pos h6])
    go_enter Tryz.func23, Tryz.ntmps23
    go_wp2_with fail
    go_ret
    exact givesE_of (by rw [HE.out]) ((Ext.refl w).alloc _)
  have t6 : decide ((6 : Int) < (n : Int)) = false := decide_eq_false (by omega)
  have HE := Lib.hid (show schemaErr s = (firstI (attrIErr s) n).2 by unfold schemaErr; rw [← HN.out, if_neg h0, if_neg h6])
  go_enter Tryz.func23, Tryz.ntmps23
  go_wp2_with fail
  go_loopw [19] (SchI s n a c w) (fun t _ => n - (intOf t).toNat)
  case atStart => exact ⟨0, rfl, by omega, fun j h => by omega, alloc_new w _, (Ext.refl w).alloc _⟩
  case round =>
    obtain ⟨k, rfl, hk, hno, hbx, hx⟩ := hrel
    obtain ⟨wo, rfl⟩ : ∃ wo : World, wo = wr := ⟨_, rfl⟩
    have HNO := Lib.hid hno
    have HBX := Lib.hid hbx
    have HX := Lib.hid hx
    obtain ⟨bb0, bbf⟩ := blk1 hbx
    have hlt0 := blk_lt hbx
    clear hno hbx hx
    by_cases hkn : k < n
    · have hks : k < s.length := by have := HN.out; omega
      obtain ⟨a', n', c', e', hx1, hx2, hx3, hat⟩ := (HS.out.ext HX.out).parts
      simp only [Value.agg.injEq, Array.mk.injEq, List.cons.injEq, Value.slice.injEq, and_true] at e'
      obtain ⟨rfl, rfl, rfl⟩ := e'
      clear hx1 hx2 hx3
      obtain ⟨b, off, rfl, aw, nw, cw, h0, h1, h2, h3, h4, h5⟩ := hat k hks
      have H5 := Lib.hid h5
      have t1 : decide ((k : Int) < (n : Int)) = true := decide_eq_true (by omega)
      have hfk := HF.out _ (List.getElem_mem hks)
      have hfn := hfk.1
      have HFK := Lib.hid hfk
      obtain ⟨f, hfa, hfle, hfany⟩ := attr_dup hks
      have HAI := Lib.hid (show attrIErr s k = if nameB s[k].name = false then 6 else if decide (f < k) = true then 8 else attrErr s[k] by unfold attrIErr; rw [getD_attr hks, hfany])
      have HFA := Lib.hid hfa
      clear hat h5 hfk hfa hfany
      obtain ⟨wa, hwa⟩ : ∃ wa, wa = wo.alloc (.cells #[.string s[k].name, .int .i64 s[k].kind, .slice aw nw cw, .int .i64 s[k].lo, .int .i64 s[k].hi] 91) := ⟨_, rfl⟩
      have hxa : Ext wo wa := by rw [hwa]; exact (Ext.refl _).alloc _
      have hba : wa.heap[wo.heap.size]? = some (.cells #[.string s[k].name, .int .i64 s[k].kind, .slice aw nw cw, .int .i64 s[k].lo, .int .i64 s[k].hi] 91 (0, 0)) := by rw [hwa]; exact alloc_new wo _
      have HXA := Lib.hid hxa
      have HBA := Lib.hid hba
      have HB2 := Lib.hid (hxa.blk HBX.out)
      clear hxa hba
      cases hnb : nameB s[k].name
      · have HNB := Lib.hid hnb
        have HR := Lib.hid (show schemaErr s = 6 by
          rw [HE.out, firstI_hit (k := k) (by rw [HAI.out, if_pos hnb]; omega) HNO.out n hkn]
          show attrIErr s k = 6
          rw [HAI.out, if_pos hnb])
        clear hnb HE
        go_wp2_with fail
        rw [← hwa]
        clear hwa
        refine (name_calls _ _ hfn).mono ?_
        rintro e w' ⟨rfl, rfl⟩
        rw [HNB.out]
        go_wp2_with fail
        go_ret
        exact givesE_of (by rw [HR.out]) (HX.out.trans HXA.out)
      have HNB := Lib.hid hnb
      rw [hnb] at HAI
      simp only [Bool.true_eq_false, if_false] at HAI
      clear hnb
      go_wp2_with fail
      rw [← hwa]
      clear hwa h0 h1 h2 h3 h4 bb0 bbf
      refine (name_calls _ _ hfn).mono ?_
      rintro e w' ⟨rfl, rfl⟩
      rw [HNB.out]
      obtain ⟨d0, df⟩ := blk1 HB2.out
      obtain ⟨a0, a1, a2, a3, a4, af⟩ := blk5b HBA.out
      have hlta := blk_lt HBA.out
      go_wp2_with fail
      refine (sIndex_calls s _ s[k].name _ (HS.out.ext (HX.out.trans HXA.out)) hl).mono ?_
      rintro e w5 ⟨rfl, hx5⟩
      rw [HFA.out, show optV (some f) = .tuple #[.int .i64 f, .bool true] from rfl]
      have HX5 := Lib.hid ((HX.out.trans HXA.out).trans hx5)
      have HB5 := Lib.hid (hx5.blk HB2.out)
      have HBA5 := Lib.hid (hx5.blk HBA.out)
      have H55 := Lib.hid (H5.out.ext (HXA.out.trans hx5))
      clear hx5 d0 df a0 a1 a2 a3 a4 af hlta
      obtain ⟨a0, a1, a2, a3, a4, af⟩ := blk5b HBA5.out
      have hlta := blk_lt HBA5.out
      by_cases hfk : f < k
      · have t2 : decide ((f : Int) < (k : Int)) = true := decide_eq_true (by omega)
        have HR := Lib.hid (show schemaErr s = 8 by
          have h8 : attrIErr s k = 8 := by rw [HAI.out, if_pos (by simpa using hfk)]
          rw [HE.out, firstI_hit (k := k) (by rw [h8]; omega) HNO.out n hkn]
          exact h8)
        clear HE
        go_wp2_with fail
        go_ret
        exact givesE_of (by rw [HR.out]) HX5.out
      have t2 : decide ((f : Int) < (k : Int)) = false := decide_eq_false (by omega)
      have HAK := Lib.hid (show attrIErr s k = attrErr s[k] by rw [HAI.out, if_neg (by simpa using hfk)])
      go_wp2_with fail
      refine (sattr_calls s[k] aw nw cw _ H55.out HFK.out).mono ?_
      rintro e w' ⟨rfl, hx7⟩
      have HX7 := Lib.hid (HX5.out.trans hx7)
      have HB7 := Lib.hid (hx7.blk HB5.out)
      clear hx7 a0 a1 a2 a3 a4 af hlta
      by_cases hz : attrErr s[k] = 0
      · have tz : (attrErr s[k] != 0) = false := by simp [hz]
        have HZ := Lib.hid hz
        clear hz
        go_wp2_with fail
        go_roundw
        case rel =>
          refine ⟨k + 1, by go_num, by omega, fun j hj => ?_, HB7.out, HX7.out⟩
          by_cases e : j = k
          · subst e; rw [HAK.out]; exact HZ.out
          · exact HNO.out j (by omega)
        case measure => simp [intOf]; omega
      · have tz : (attrErr s[k] != 0) = true := by simp [hz]
        have HR := Lib.hid (show schemaErr s = attrErr s[k] by
          rw [HE.out, firstI_hit (k := k) (by rw [HAK.out]; exact hz) HNO.out n hkn]
          exact HAK.out)
        clear hz
        go_wp2_with fail
        go_ret
        exact givesE_of (by rw [HR.out]) HX7.out
    · have t1 : decide ((k : Int) < (n : Int)) = false := decide_eq_false (by omega)
      have HR := Lib.hid (show schemaErr s = 0 by rw [HE.out, firstI_zero n fun j hj => HNO.out j (by omega)])
      go_wp2_with fail
      go_ret
      exact givesE_of (by rw [HR.out]) HX.out
end Go.Proofs.YtfjlglefodndjaaGreatDoor
