/-
  Texts of the claim, joined: Conds, SCla, SWord, CCla, Sizes.
-/
import Derived.Test.YtefjomofjejklaaGreatDoorDw05
namespace Go.Proofs.YtefjomofjejklaaGreatDoor
set_option maxRecDepth 100000
set_option maxHeartbeats 32000000
open Go.RowKit
def condsW : List Wb -> List Ex
 | [] => []
 | .mk _ c u :: r => c :: (condsW u ++ condsW r)
theorem condsW_len : (l : List Wb) -> (condsW l).length = wbN l
 | [] => by simp [condsW, wbN]
 | .mk n c u :: r => by simp [condsW, wbN, condsW_len u, condsW_len r]; omega
theorem condsW_take_succ : (l : List Wb) -> (k : Nat) -> (hk : k < l.length) -> condsW (l.take (k + 1)) = condsW (l.take k) ++ l[k].cond :: condsW l[k].unl
 | [], k, hk => by simp at hk
 | .mk n c u :: r, 0, _ => by simp [condsW, Wb.cond, Wb.unl]
 | .mk n c u :: r, k + 1, hk => by
  have := condsW_take_succ r k (by simpa using hk)
  simp [condsW] at this ⊢
  rw [this]
def GnX (k : Nat) (W W' : World) : Prop := k ≠ 4 -> k ≠ 7 -> Ext W W'
def GrXL (V : Value) (wr : World) (L : ZN) (_ : Nat -> Value) (W : World) : Prop := Chg (rowOf V) wr W /\ (4 ∉ L -> 7 ∉ L -> Ext wr W)
theorem grx_step {V : Value} {wr W W' : World} {L : ZN} {vs : Nat -> Value} {i : Nat} {v : Value} (h : GrXL V wr L vs W) (hx : Ext W W') : GrXL V wr (L ++ [i]) (upd vs i v) W' :=
 ⟨h.1.then (hx.chg _), fun h4 h7 => (h.2 (fun hm => h4 (List.mem_append_left _ hm)) (fun hm => h7 (List.mem_append_left _ hm))).trans hx⟩
theorem grx_brk {V : Value} {wr W' : World} {L : ZN} {vs : Nat -> Value} {i : Nat} {v : Value} (hi : i = 4 \/ i = 7) (hc : Chg (rowOf V) wr W') : GrXL V wr (L ++ [i]) (upd vs i v) W' :=
 ⟨hc, fun h4 h7 => by rcases hi with rfl | rfl; exact absurd (by simp) h4; exact absurd (by simp) h7⟩
theorem ExsR.app {w : World} {l l' : List Ex} {xs xs' : List ExV} (h : ExsR w l xs) (h' : ExsR w l' xs') : ExsR w (l ++ l') (xs ++ xs') := by
 refine ⟨by simp [h.1, h'.1], fun i h1 h2 => ?_⟩
 by_cases hi : i < l.length
 ·have hi2 : i < xs.length := by rw [<- h.1]; exact hi
  simp only [List.getElem_append_left hi, List.getElem_append_left hi2]
  exact h.2 i hi hi2
 have hi2 : xs.length <= i := by have := h.1; omega
 simp only [List.getElem_append_right (Nat.le_of_not_lt hi), List.getElem_append_right hi2]
 have e := h.1
 have := h'.2 (i - l.length) (by simp at h1; omega) (by simp at h2; omega)
 simpa [e] using this
def ExcQ (w0 : World) (B : Nat) (l : List Wb) (V : Value) (n : Nat) (zs : List Value) (w : World) (e : Ending) (w' : World) : Prop := ∃ (v : Value) (ys : List ExV), e = .returned v /\ w'.ownsRow B 45 6 v (n + wbN l) (zs ++ ys.flatMap ExV.cells) /\ ExsR w0 (condsW l) ys /\
 Chg (rowOf V) w w' /\ (∀ k, v.ownBlock = some k -> V.ownBlock = some k \/ w.heap.size <= k)
def ExcL (w0 : World) (B : Nat) (l : List Wb) (V : Value) (n : Nat) (zs : List Value) (w : World) (nl : Nat) (v t : Value) (wr : World) : Prop := ∃ (k : Nat) (ys : List ExV), t = .int .i64 ((k : Nat) : Int) /\ k <= nl /\ wr.ownsRow B 45 6 v (n + wbN (l.take k)) (zs ++ ys.flatMap ExV.cells) /\ ExsR w0 (condsW (l.take k)) ys /\
 Chg (rowOf V) w wr /\ (∀ k, v.ownBlock = some k -> V.ownBlock = some k \/ w.heap.size <= k)
def exc4R (w0 wx : World) (B : Nat) (va : OA) (vn vc : Nat) (zk : List Value) (rv : WbV) (U : List Wb) (y : Nat) : Nat -> Value -> World -> Prop
 | 0, u, _ => u = (.slice va vn vc)
 | 1, u, _ => u = .pointer (some ⟨y, 1, none⟩)
 | 2, u, _ => u = .agg #[.int .i64 rv.x.op, .string rv.x.name, .slice rv.x.aw rv.x.nw rv.x.cw, .int .i64 rv.x.lo, .int .i64 rv.x.hi, .slice rv.x.aa rv.x.na rv.x.ca]
 | 3, u, W => ∃ (g : Nat), u = .slice (some ⟨g, 0, none⟩) 1 1 /\ W.heap[g]? = some (.cells rv.x.cells.toArray 45 (0, 0))
 | 4, u, W => ∃ (gg : Nat) (cp : Nat), u = .slice (some ⟨gg, 0, none⟩) (vn + 1) cp /\ (W.ownsRow B 45 6 (.slice (some ⟨gg, 0, none⟩) (vn + 1) cp) (vn + 1) (zk ++ rv.x.cells) /\ (Value.ownBlock (.slice va vn vc) = some gg \/ wx.heap.size <= gg))
 | 5, u, _ => u = .pointer (some ⟨y, 7, none⟩)
 | 6, u, _ => u = .slice rv.au rv.nu rv.cu
 | _, u, W => ∃ (v2 : Value) (ysn : List ExV), u = v2 /\ (W.ownsRow B 45 6 v2 (vn + 1 + wbN U) (zk ++ rv.x.cells ++ ysn.flatMap ExV.cells) /\ ExsR w0 (condsW U) ysn /\ ∀ q, v2.ownBlock = some q -> Value.ownBlock (.slice va vn vc) = some q \/ wx.heap.size <= q)
theorem exceptions_calls {w0 : World} (fm : Nat) : ∀ (l : List Wb) (a : OA) (nl c B : Nat) (V : Value) (n : Nat) (zs : List Value) (w : World), wbN l < fm -> nl = l.length -> n + wbN l <= 10000 -> WbsD w0 l a -> Ext w0 w -> w0.heap.size <= B -> B <= w.heap.size -> w.ownsRow B 45 6 V n zs ->
  Calls Tryz.prog 113 #[V, .slice a nl c] w (ExcQ w0 B l V n zs w) := by
 induction fm with
 | zero => intro l a nl c B V n zs w h; omega
 | succ fm ih =>
  intro l a nl c B V n zs w hfm hln hnb hdat hx0 hB hBw hown
  have HD := hI hdat
  have HN := hI hln
  have HX0 := hI hx0
  have HOW0 := hI hown
  have IH := hI ih
  have HB := hI hB
  have HBW := hI hBw
  have hwl := wbN_len l
  have hnl : nl <= 10000 := by omega
  clear hdat hln hx0 ih hown
  go_enter Tryz.func113, Tryz.ntmps113
  go_wp2_with fail
  go_loopw [0, 9] (ExcL w0 B l V n zs w nl) (fun _ t _ => nl - (intOf t).toNat)
  case atStart => exact ⟨0, [], rfl, by omega, by simpa [wbN] using HOW0.out, by simp [condsW, ExsR.nil], Chg.refl _ _, fun k hk => Or.inl hk⟩
  case round =>
   obtain ⟨k, ys, rfl, hk, how, hys, hch, hfr⟩ := hrel
   obtain ⟨va, vc, hv⟩ := owns_formG how
   subst hv
   obtain ⟨vn, hvn⟩ : ∃ vn, vn = n + wbN (l.take k) := ⟨_, rfl⟩
   rw [<- hvn] at how hfr ⊢
   have HVN := hI hvn
   have hvb : vn <= 10000 := by have := wbN_take_le l k; omega
   obtain ⟨zk, hzk⟩ : ∃ zk, zk = zs ++ ys.flatMap ExV.cells := ⟨_, rfl⟩
   rw [<- hzk] at how
   have HZK := hI hzk
   have HOW := hI how
   have HYS := hI hys
   have HCH := hI hch
   have HFR := hI hfr
   have HXR := hI (show Ext w0 wr from hch.ext HX0.out (fun y hy => by have := (HOW0.out.lt y (mem_rowOf.1 hy)).1; have := HB.out; omega))
   clear hvn hzk how hys hch hfr
   by_cases hkn : k < nl
   case neg =>
    have t1 : decide ((k : Int) < (nl : Int)) = false := decide_eq_false (by omega)
    have HT := hI (show l.take k = l from List.take_of_length_le (by have := HN.out; omega))
    go_wp2_with fail
    go_ret
    refine ⟨_, ys, rfl, ?_, ?_, HCH.out, HFR.out⟩
    ·have h1 := HOW.out
     have h2 := HVN.out
     rw [HT.out] at h2
     rw [<- h2, <- HZK.out]
     exact h1
    have := HYS.out
    rwa [HT.out] at this
   have hkl : k < l.length := by have := HN.out; omega
   have t1 : decide ((k : Int) < (nl : Int)) = true := decide_eq_true (by omega)
   obtain ⟨b, off, rfl, rv, hv0, hrow, hv2, hv3, hv4, hv5, hv6⟩ := WbsD.at l _ HD.out k hkl
   obtain ⟨c0, c1, c2, c3, c4, c5, c6, c7⟩ := (hrow.mono HXR.out.sub).eight
   have hwn := wbN_at l k hkl
   have HU := hI hv6
   have HUN := hI hv3
   have HEX := hI hv2
   have HTS := hI (wbN_take_succ l k hkl)
   have HCT := hI (condsW_take_succ l k hkl)
   have HTL := hI (wbN_take_le l (k + 1))
   have hunb : vn + 1 + wbN l[k].unl <= 10000 := by have h1 := wbN_take_le l (k + 1); have h2 := wbN_take_succ l k hkl; have h3 := HVN.out; omega
   have hufm : wbN l[k].unl < fm := by omega
   clear hrow hv0 hv2 hv3 hv4 hv5 hv6
   obtain ⟨y, hy⟩ : ∃ y, y = wr.heap.size := ⟨_, rfl⟩
   obtain ⟨wx, hwx⟩ : ∃ wx, wx = wr.alloc (.cells #[.string rv.name, .int .i64 rv.x.op, .string rv.x.name, .slice rv.x.aw rv.x.nw rv.x.cw, .int .i64 rv.x.lo, .int .i64 rv.x.hi, .slice rv.x.aa rv.x.na rv.x.ca, .slice rv.au rv.nu rv.cu] 53) := ⟨_, rfl⟩
   have HBX := hI (show wx.heap[y]? = some (.cells #[.string rv.name, .int .i64 rv.x.op, .string rv.x.name, .slice rv.x.aw rv.x.nw rv.x.cw, .int .i64 rv.x.lo, .int .i64 rv.x.hi, .slice rv.x.aa rv.x.na rv.x.ca, .slice rv.au rv.nu rv.cu] 53 (0, 0)) by rw [hwx, hy]; exact alloc_new wr _)
   have HXX := hI (show Ext wr wx by rw [hwx]; exact (Ext.refl _).alloc _)
   have HYN := hI (show y ∉ rowOf (.slice va vn vc) from fun h => by have := (HOW.out.lt y (mem_rowOf.1 h)).2; omega)
   have HOX := hI (owns_extG HOW.out HXX.out)
   have HYW := hI (show wr.heap.size <= y by omega)
   go_upto_region 4 with fail
   rw [<- hwx, <- hy]
   clear hwx c0 c1 c2 c3 c4 c5 c6 c7 hy
   obtain ⟨U, hU⟩ : ∃ U, U = l[k].unl := ⟨_, rfl⟩
   rw [<- hU] at HU HUN hunb hufm HTS HCT
   have HBX2 := hI (show B <= wx.heap.size from Nat.le_trans HBW.out (Nat.le_trans HCH.out.size HXX.out.size))
   clear hU
   refine wp_region_growLG (n := 0) (m := 8) [7] (GrXL (.slice va vn vc) wx) GnX (GrP (exc4R w0 wx B va vn vc zk rv U y)) (by kernel_rfl) (by kernel_rfl) (Nat.le_of_ble_eq_true rfl) ?gd ⟨((Ext.refl wx).drew).chg _, fun _ _ => (Ext.refl wx).drew⟩ ?_ ?_ ?_
   case gd =>
    intro i o j b hi ho hg
    rcases ltc8 hi with rfl | rfl | rfl | rfl | rfl | rfl | rfl | rfl <;> (cases ho; first | (cases hg; done) | (cases hg; intro v W h; exact h))
   ·intro i k v W W' hi hk hne hout h hE
    have hi' := ltc8 hi
    clear hi hk
    by_cases hk : k = 4
    ·subst hk
     rcases hi' with rfl | rfl | rfl | rfl | rfl | rfl | rfl | rfl
     ·exact h
     ·exact h
     ·exact h
     ·exact absurd hout (by decide +kernel)
     ·exact absurd rfl hne
     ·exact h
     ·exact h
     exact absurd hout (by decide +kernel)
    by_cases hk : k = 7
    ·subst hk
     rcases hi' with rfl | rfl | rfl | rfl | rfl | rfl | rfl | rfl
     ·exact h
     ·exact h
     ·exact h
     ·exact absurd hout (by decide +kernel)
     ·exact absurd hout (by decide +kernel)
     ·exact h
     ·exact h
     exact absurd rfl hne
    have hE : Ext W W' := (hE ‹_› ‹_›)
    rcases hi' with rfl | rfl | rfl | rfl | rfl | rfl | rfl | rfl
    ·exact h
    ·exact h
    ·exact h
    ·obtain ⟨g, e0, h⟩ := h
     exact ⟨g, e0, hE.blk h⟩
    ·obtain ⟨gg, cp, e0, h⟩ := h
     exact ⟨gg, cp, e0, ⟨owns_extG h.1 hE, h.2⟩⟩
    ·exact h
    ·exact h
    obtain ⟨v2, ysn, e0, h⟩ := h
    exact ⟨v2, ysn, e0, ⟨owns_extG h.1 hE, h.2⟩⟩
   ·intro q op hq ho L vs W hqL hcL hW hd ρ hρ
    have hq' := ltc8 hq
    clear hq
    have o0 : ρ (.tmp 0) = (.slice va vn vc) := hρ.out 0 rfl
    have o6 : ρ (.tmp 6) = .pointer (some ⟨y, 0, none⟩) := hρ.out 6 rfl
    have i1 := hρ.i 1 14
    have i2 := hρ.i 2 15
    have i0 := hρ.i 0 13
    have i3 := hρ.i 3 16
    have i5 := hρ.i 5 18
    have i4 := hρ.i 4 17
    have i6 := hρ.i 6 19
    have hc := hρ.const
    have hfn := hρ.func
    clear hρ
    rcases hq' with rfl | rfl | rfl | rfl | rfl | rfl | rfl | rfl
    ·have HG := hI hW
     have HW := hI (show Chg (rowOf (.slice va vn vc)) wx W from hW.1)
     have HQL := hI hqL
     clear hW hqL hcL
     cases ho
     clear hd
     unfold GivesOp
     go_simp
     exact ⟨fun _ _ => Ext.refl W, grx_step HG.out (Ext.refl W), rfl⟩
    ·have HG := hI hW
     have HW := hI (show Chg (rowOf (.slice va vn vc)) wx W from hW.1)
     have HQL := hI hqL
     clear hW hqL hcL
     cases ho
     clear hd
     unfold GivesOp
     go_simp
     exact ⟨fun _ _ => Ext.refl W, grx_step HG.out (Ext.refl W), rfl⟩
    ·have HG := hI hW
     have HW := hI (show Chg (rowOf (.slice va vn vc)) wx W from hW.1)
     have HQL := hI hqL
     clear hW hqL hcL
     cases ho
     have h1 : vs 1 = _ := hd ⟨1, .data⟩ (by simp) rfl
     rw [h1] at i1
     clear hd
     obtain ⟨g0, g1, g2, g3, g4, g5, g6, g7, gf⟩ := blk8 (HW.out.blk HBX.out HYN.out)
     unfold GivesOp
     go_simp
     exact ⟨fun _ _ => Ext.refl W, grx_step HG.out (Ext.refl W), rfl⟩
    ·have HG := hI hW
     have HW := hI (show Chg (rowOf (.slice va vn vc)) wx W from hW.1)
     have HQL := hI hqL
     clear hW hqL hcL
     cases ho
     have h2 : vs 2 = _ := hd ⟨2, .data⟩ (by simp) rfl
     rw [h2] at i2
     clear hd
     unfold GivesOp
     go_simp
     exact ⟨fun _ _ => (Ext.refl W).alloc _, grx_step HG.out ((Ext.refl W).alloc _), W.heap.size, rfl, alloc_new W _⟩
    ·have HN7 := hI (show 7 ∉ L from fun h => absurd (hcL 7 h) (by decide +kernel))
     have HG := hI hW
     have HW := hI (show Chg (rowOf (.slice va vn vc)) wx W from hW.1)
     have HQL := hI hqL
     clear hW hqL hcL
     cases ho
     have h0 : vs 0 = _ := hd ⟨0, .data⟩ (by simp) rfl
     rw [h0] at i0
     obtain ⟨g, h3, hs3⟩ : ∃ (g : Nat), vs 3 = .slice (some ⟨g, 0, none⟩) 1 1 /\ W.heap[g]? = some (.cells rv.x.cells.toArray 45 (0, 0)) := hd ⟨3, .data⟩ (by simp) rfl
     have HS3 := hI hs3
     clear hs3
     rw [h3] at i3
     clear hd
     have HXW := hI (HG.out.2 HQL.out HN7.out)
     refine gives_append elemEx _ _ B _ vn zk i0 g 1 1 rv.x.cells i3 rfl (by simp [ExV.cells, Value.oneCell']) (by omega) (by omega) (by omega) (owns_extG HOX.out HXW.out) (fun j hj => by rw [blk_cell HS3.out]; simp [hj]) (by have := HBX2.out; have := HXW.out.size; omega) ?_
     intro g6 cap6 w6 ho6 hg6 hl6 hlt6
     exact ⟨fun h => absurd rfl h, grx_brk (Or.inl rfl) (HW.out.then (grown_chg hg6)), g6, cap6, rfl, ho6, by rcases hl6 with h | h; exact Or.inl h; exact Or.inr (by have := HXW.out.size; omega)⟩
    ·have HG := hI hW
     have HW := hI (show Chg (rowOf (.slice va vn vc)) wx W from hW.1)
     have HQL := hI hqL
     clear hW hqL hcL
     cases ho
     clear hd
     unfold GivesOp
     go_simp
     exact ⟨fun _ _ => Ext.refl W, grx_step HG.out (Ext.refl W), rfl⟩
    ·have HG := hI hW
     have HW := hI (show Chg (rowOf (.slice va vn vc)) wx W from hW.1)
     have HQL := hI hqL
     clear hW hqL hcL
     cases ho
     have h5 : vs 5 = _ := hd ⟨5, .data⟩ (by simp) rfl
     rw [h5] at i5
     clear hd
     obtain ⟨g0, g1, g2, g3, g4, g5, g6, g7, gf⟩ := blk8 (HW.out.blk HBX.out HYN.out)
     unfold GivesOp
     go_simp
     exact ⟨fun _ _ => Ext.refl W, grx_step HG.out (Ext.refl W), rfl⟩
    have HG := hI hW
    have HW := hI (show Chg (rowOf (.slice va vn vc)) wx W from hW.1)
    have HQL := hI hqL
    clear hW hqL hcL
    cases ho
    obtain ⟨gg, cp, h4, hs4⟩ : ∃ (gg : Nat) (cp : Nat), vs 4 = .slice (some ⟨gg, 0, none⟩) (vn + 1) cp /\ (W.ownsRow B 45 6 (.slice (some ⟨gg, 0, none⟩) (vn + 1) cp) (vn + 1) (zk ++ rv.x.cells) /\ (Value.ownBlock (.slice va vn vc) = some gg \/ wx.heap.size <= gg)) := hd ⟨4, .data⟩ (by simp) rfl
    have HS4 := hI hs4
    clear hs4
    rw [h4] at i4
    have h6 : vs 6 = _ := hd ⟨6, .data⟩ (by simp) rfl
    rw [h6] at i6
    clear hd
    unfold GivesOp
    go_simp
    have HXW0 : Ext w0 W := HW.out.ext (HXR.out.trans HXX.out) (fun q hq => by have := (HOX.out.lt q (mem_rowOf.1 hq)).1; have := HB.out; omega)
    refine (IH.out U rv.au rv.nu rv.cu B _ (vn + 1) _ W hufm HUN.out (by omega) HU.out HXW0 HB.out (by have := HBX2.out; have := HW.out.size; omega) HS4.out.1).mono ?_
    rintro r w6 ⟨v6, ys6, rfl, k1, k2, k3, k4⟩
    have hrow : ∀ q, some gg = some q -> q ∈ rowOf (.slice va vn vc) \/ wx.heap.size <= q := fun q hq => by
     obtain rfl : gg = q := by simpa using hq
     rcases HS4.out.2 with h | h
     ·exact Or.inl (mem_rowOf.2 h)
     exact Or.inr h
    exact ⟨_, rfl, fun _ h => absurd rfl h, grx_brk (Or.inr rfl) (HW.out.trans k3 (fun q hq => hrow q (mem_rowOf.1 hq))), v6, ys6, rfl, k1, k2, fun q hq => by
     rcases k4 q hq with h | h
     ·exact (hrow q h).imp mem_rowOf.1 id
     exact Or.inr (by have := HW.out.size; omega)⟩
   intro L vs W hLm hW hR
   rw [if_neg (by decide +kernel)]
   obtain ⟨v2, ysn, h7, hs7⟩ : ∃ (v2 : Value) (ysn : List ExV), vs 7 = v2 /\ (W.ownsRow B 45 6 v2 (vn + 1 + wbN U) (zk ++ rv.x.cells ++ ysn.flatMap ExV.cells) /\ ExsR w0 (condsW U) ysn /\ ∀ q, v2.ownBlock = some q -> Value.ownBlock (.slice va vn vc) = some q \/ wx.heap.size <= q) := hR 7 (by simp) (by omega)
   have HS7 := hI hs7
   clear hs7
   refine wpOp_lastG rfl ?_
   change wpList _ _ _ [⟨some 0, .assign (.tmp 20), _, _, _, none⟩] _ _
   simp only [acts, dstAt, List.range, List.range.loop, List.foldl_cons, List.foldl_nil, h7]
   go_simp
   have hW2 : Chg (rowOf (.slice va vn vc)) wx W := hW.1
   clear hR hW hLm h7
   obtain ⟨h1, h2, h3⟩ := HS7.out
   have HO8 := hI h1
   have HY8 := hI h2
   have HF8 := hI h3
   have HC8 := hI (show Chg (rowOf (.slice va vn vc)) wx W from hW2)
   clear HS7 hW2 h1 h2 h3
   go_wp2_with fail
   go_roundw
   case rel =>
    refine ⟨k + 1, ys ++ rv.x :: ysn, by go_num, by omega, ?_, ?_, ?_, ?_⟩
    ·have h1 := HO8.out
     have h2 : vn + 1 + wbN U = n + wbN (l.take (k + 1)) := by have := HVN.out; have := HTS.out; omega
     rw [h2, HZK.out] at h1
     simpa using h1
    ·rw [HCT.out]
     refine HYS.out.app ?_
     have h1 : ExsR w0 [l[k].cond] [rv.x] := (ExsR.nil w0).snoc HEX.out
     have := h1.app HY8.out
     simpa using this
    ·refine (HCH.out.then (HXX.out.chg _)).trans HC8.out fun y hy => ?_
     rcases HFR.out y (mem_rowOf.1 hy) with h | h
     ·exact Or.inl (mem_rowOf.2 h)
     exact Or.inr h
    intro q hq
    rcases HF8.out q hq with h | h
    ·exact HFR.out q h
    exact Or.inr (by have h1 := HCH.out.size; have h2 := HXX.out.size; omega)
   case measure => simp [intOf]; omega
def KwQ (k : Int) (w : World) (e : Ending) (w' : World) : Prop := ∃ s : BA, e = .returned (.string s) /\ s.toList.isEmpty = !decide (1 <= k /\ k <= 10) /\ w = w'
theorem keyword_calls (k : Int) (w : World) : Calls Tryz.prog 181 #[.int .i64 k] w (KwQ k w) := by
 by_cases h : 1 <= k /\ k <= 10
 ·have HD := hI (show (!decide (1 <= k /\ k <= 10)) = false by rw [decide_eq_true h]; rfl)
  unfold KwQ
  rw [HD.out]
  clear HD
  have hk : k = 1 \/ k = 2 \/ k = 3 \/ k = 4 \/ k = 5 \/ k = 6 \/ k = 7 \/ k = 8 \/ k = 9 \/ k = 10 := by omega
  clear h
  rcases hk with rfl | rfl | rfl | rfl | rfl | rfl | rfl | rfl | rfl | rfl
  all_goals
   go_enter Tryz.func181, Tryz.ntmps181
   go_wp2_with fail
   go_ret
   exact ⟨_, rfl, by decide +kernel, rfl⟩
 have HD := hI (show (!decide (1 <= k /\ k <= 10)) = true by rw [decide_eq_false h]; rfl)
 unfold KwQ
 rw [HD.out]
 have e1 : (k == 1) = false := by simp; omega
 have e2 : (k == 2) = false := by simp; omega
 have e3 : (k == 3) = false := by simp; omega
 have e4 : (k == 4) = false := by simp; omega
 have e5 : (k == 5) = false := by simp; omega
 have e6 : (k == 6) = false := by simp; omega
 have e7 : (k == 7) = false := by simp; omega
 have e8 : (k == 8) = false := by simp; omega
 have e9 : (k == 9) = false := by simp; omega
 have e10 : (k == 10) = false := by simp; omega
 clear h
 go_enter Tryz.func181, Tryz.ntmps181
 go_wp2_with fail
 go_ret
 exact ⟨_, rfl, by decide +kernel, rfl⟩
theorem greatest_calls (k : Int) (w : World) : Calls Tryz.prog 182 #[.int .i64 k] w (Gives (.int .i64 (mostOf k)) w) := by
 obtain ⟨E, hE⟩ : ∃ E, E = mostOf k := ⟨_, rfl⟩
 rw [<- hE]
 by_cases h : k = 5 \/ k = 6 \/ k = 7 \/ k = 10 \/ k = 8
 ·have HE := hI hE
  clear hE
  rcases h with rfl | rfl | rfl | rfl | rfl
  all_goals
   go_enter Tryz.func182, Tryz.ntmps182
   go_wp2_with fail
   go_ret
   exact gives_int (by rw [HE.out]; rfl)
 have HE := hI (show E = 0 by rw [hE]; unfold mostOf; rw [if_neg (by omega), if_neg (by omega)])
 have e5 : (k == 5) = false := by simp; omega
 have e6 : (k == 6) = false := by simp; omega
 have e7 : (k == 7) = false := by simp; omega
 have e8 : (k == 8) = false := by simp; omega
 have e10 : (k == 10) = false := by simp; omega
 clear h hE
 go_enter Tryz.func182, Tryz.ntmps182
 go_wp2_with fail
 go_ret
 exact gives_int (by rw [HE.out])
theorem cnt_le_wbN : (l : List Wb) -> cntBacks l <= wbN l
 | [] => by simp [cntBacks]
 | .mk n c u :: r => by
  have h1 := cnt_le_wbN u
  have h2 := cnt_le_wbN r
  rw [cntBacks, wbN]; omega
theorem wbN_le_of : (l : List Wb) -> cntBacks l <= 40 -> wbN l <= 40
 | [], _ => by simp [wbN]
 | .mk n c u :: r, h => by
  rw [cntBacks] at h
  have key : ∀ l : List Wb, cntBacks l <= 40 -> wbN l <= cntBacks l := by
   intro l
   induction l using wbN.induct with
   | case1 => intro _; simp [wbN]
   | case2 n c u r ih1 ih2 =>
    intro h
    rw [cntBacks] at h ⊢
    have h1 := ih1 (by omega)
    have h2 := ih2 (by omega)
    rw [wbN]; omega
  have h1 := key u (by omega)
  have h2 := key r (by omega)
  rw [wbN]; omega
theorem cnt_iff (l : List Wb) : decide (cntBacks l <= 40) = decide (0 + wbN l <= 40) := by
 have h1 := cnt_le_wbN l
 have h2 := wbN_le_of l
 rw [decide_eq_decide]
 constructor
 ·intro h; have := h2 h; omega
 intro h; omega
theorem clauseB_eq (c : Cla) : clauseB c = (decide (1 <= c.kind /\ c.kind <= 10) && nameB c.name && refExprB c.cond && (decide (c.unl.length = 0) || (c.kind == 3)) && (decide (min 1 (mostOf c.kind) <= c.amount) && decide (c.amount <= mostOf c.kind)) && (backsB 16 c.unl && decide (0 + wbN c.unl <= 40))) := by
 have hm : 0 <= mostOf c.kind := by unfold mostOf; split <;> (try split) <;> omega
 have h1 : ((decide (mostOf c.kind = 0) && (c.amount == 0)) || (decide (0 < mostOf c.kind) && decide (1 <= c.amount) && decide (c.amount <= mostOf c.kind))) = (decide (min 1 (mostOf c.kind) <= c.amount) && decide (c.amount <= mostOf c.kind)) := by
  generalize mostOf c.kind = m at *
  generalize c.amount = a
  rw [Bool.eq_iff_iff]
  simp only [Bool.or_eq_true, Bool.and_eq_true, decide_eq_true_eq, beq_iff_eq]
  omega
 unfold clauseB
 rw [h1, cnt_iff]
 have h2 : (decide (1 <= c.kind) && decide (c.kind <= 10)) = decide (1 <= c.kind /\ c.kind <= 10) := by simp
 rw [h2]
 generalize (decide (min 1 (mostOf c.kind) <= c.amount) && decide (c.amount <= mostOf c.kind)) = A
 by_cases hl : c.unl.length = 0
 ·have : c.unl = [] := List.eq_nil_of_length_eq_zero hl
  rw [this]
  simp [backsB, wbN]
 simp only [hl, decide_false, Bool.false_or]
 cases decide (1 <= c.kind /\ c.kind <= 10) <;> cases nameB c.name <;> cases refExprB c.cond <;> cases (c.kind == 3) <;> cases decide (0 + wbN c.unl <= 40) <;> cases backsB 16 c.unl <;> cases A <;> rfl
theorem sclause_calls (c : Cla) (v : ClV) (w : World) (hc : IsCla w c v) (ho : HasOps w) (hok : c.fit) :
  Calls Tryz.prog 166 #[.agg #[.int .i64 v.kind, .string v.name, .int .i64 v.x.op, .string v.x.name, .slice v.x.aw v.x.nw v.x.cw, .int .i64 v.x.lo, .int .i64 v.x.hi, .slice v.x.aa v.x.na v.x.ca, .slice v.au v.nu v.cu, .int .i64 v.amount]] w (GivesE (.bool (clauseB c)) w) := by
 obtain ⟨hk, hnm, hex, hnu, -, -, hwb, ham⟩ := hc
 obtain ⟨ho1, ho2, ho3, ho4, ho5, ho6⟩ := hok
 rw [hk, hnm, ham]
 have HEX := hI hex
 have HWB := hI hwb
 have HNU := hI hnu
 have HO := hI ho
 have HO2 := hI ho2
 have HO6 := hI ho6
 have hnu2 : v.nu <= 1000000000000000 := by rw [hnu]; exact ho5
 obtain ⟨R, hR⟩ : ∃ R, R = clauseB c := ⟨_, rfl⟩
 rw [<- hR]
 rw [clauseB_eq] at hR
 have HR := hI hR
 clear hk hnm hex hnu hwb ham ho2 ho3 ho4 ho5 ho6 hR ho
 obtain ⟨kind, name, cond, unl, amount⟩ := c
 simp only at *
 obtain ⟨vk, vn, x, au, nu, cu, va⟩ := v
 simp only at *
 obtain ⟨wa, hwa⟩ : ∃ wa, wa = w.alloc (.cells #[.int .i64 kind, .string name, .int .i64 x.op, .string x.name, .slice x.aw x.nw x.cw, .int .i64 x.lo, .int .i64 x.hi, .slice x.aa x.na x.ca, .slice au nu cu, .int .i64 amount] 48) := ⟨_, rfl⟩
 have hxa : Ext w wa := by rw [hwa]; exact (Ext.refl _).alloc _
 have hb : wa.heap[w.heap.size]? = some (.cells #[.int .i64 kind, .string name, .int .i64 x.op, .string x.name, .slice x.aw x.nw x.cw, .int .i64 x.lo, .int .i64 x.hi, .slice x.aa x.na x.ca, .slice au nu cu, .int .i64 amount] 48 (0, 0)) := by rw [hwa]; exact alloc_new w _
 have HXA := hI hxa
 have HB := hI hb
 obtain ⟨b0, b1, b2, b3, b4, b5, b6, b7, b8, b9, bf⟩ := blk10r hb
 have hltw := blk_lt hb
 clear hxa hb
 go_enter Tryz.func166, Tryz.ntmps166
 go_upto_region 1 with fail
 rw [<- hwa]
 clear hwa
 go_wp2_with fail
 refine (keyword_calls kind wa).mono ?_
 rintro r w1 ⟨s, rfl, hs, rfl⟩
 cases hkd : decide (1 <= kind /\ kind <= 10)
 ·rw [hkd] at hs HR
  have HF := hI (show R = false by rw [HR.out]; rfl)
  have hs2 : s.toList.isEmpty = true := hs
  clear hs hkd
  go_wp2_with fail
  go_ret
  exact givesE_b (by rw [HF.out]) HXA.out
 rw [hkd] at hs HR
 have hs2 : s.toList.isEmpty = false := hs
 rw [Bool.true_and] at HR
 clear hs hkd
 go_wp2_with fail
 refine (name_calls _ _ ho1).mono ?_
 rintro r w1 ⟨rfl, rfl⟩
 cases hnb : nameB name
 ·rw [hnb] at HR
  have HF := hI (show R = false by rw [HR.out]; rfl)
  clear hnb
  go_wp2_with fail
  go_ret
  exact givesE_b (by rw [HF.out]) HXA.out
 rw [hnb, Bool.true_and] at HR
 clear hnb
 go_wp2_with fail
 refine (Valid_calls cond _ _ (HEX.out.ext HXA.out) (HO.out.ext HXA.out) HO2.out).mono ?_
 rintro r w2 ⟨rfl, hx2⟩
 rw [validB_ref]
 have HX2 := hI (HXA.out.trans hx2)
 have HB2 := hI (hx2.blk HB.out)
 clear hx2 b0 b1 b2 b3 b4 b5 b6 b7 b8 b9 bf hltw
 obtain ⟨b0, b1, b2, b3, b4, b5, b6, b7, b8, b9, bf⟩ := blk10r HB2.out
 have hltw := blk_lt HB2.out
 cases hxb : refExprB cond
 ·rw [hxb] at HR
  have HF := hI (show R = false by rw [HR.out]; rfl)
  clear hxb
  go_wp2_with fail
  go_ret
  exact givesE_b (by rw [HF.out]) HX2.out
 rw [hxb, Bool.true_and] at HR
 clear hxb
 by_cases hbad : kind ≠ 3 /\ 0 < nu
 ·obtain ⟨h3, h0⟩ := hbad
  have t3 : (kind != 3) = true := by simp [h3]
  have t0 : decide ((0 : Int) < (nu : Int)) = true := decide_eq_true (by omega)
  have HF := hI (show R = false by
   have e0 : decide (unl.length = 0) = false := decide_eq_false (by have := HNU.out; omega)
   have e3 : (kind == 3) = false := by simp [h3]
   rw [HR.out, e0, e3]; rfl)
  clear h3
  go_wp2_with fail
  go_ret
  exact givesE_b (by rw [HF.out]) HX2.out
 have HR2 := hI (show R = (decide (min 1 (mostOf kind) <= amount) && decide (amount <= mostOf kind) && (backsB 16 unl && decide (0 + wbN unl <= 40))) by
  rw [HR.out]
  by_cases h0 : nu = 0
  ·have e0 : decide (unl.length = 0) = true := decide_eq_true (by have := HNU.out; omega)
   rw [e0]; simp
  have e3 : (kind == 3) = true := by
   by_cases h3 : kind = 3
   ·simp [h3]
   exact absurd ⟨h3, by omega⟩ hbad
  rw [e3]; simp)
 clear HR
 obtain ⟨M, hM⟩ : ∃ M, M = mostOf kind := ⟨_, rfl⟩
 have hM0 : 0 <= M /\ M <= 1073741824 := by rw [hM]; unfold mostOf; split <;> (try split) <;> omega
 rw [<- hM] at HR2
 have HM := hI hM
 clear hM
 obtain ⟨hM0, hM1⟩ := hM0
 by_cases h3 : kind = 3
 case' pos =>
  have t3 : (kind != 3) = false := by simp [h3]
  clear hbad h3
 case' neg =>
  have t3 : (kind != 3) = true := by simp [h3]
  have hn0 : nu = 0 := by
   rcases Nat.eq_zero_or_pos nu with h | h
   ·exact h
   exact absurd ⟨h3, h⟩ hbad
  have t0 : decide ((0 : Int) < (nu : Int)) = false := decide_eq_false (by omega)
  have t00 : decide (0 < nu) = false := decide_eq_false (by omega)
  clear hbad h3 hn0
 all_goals
  go_wp2_with fail
  refine (greatest_calls kind w2).mono ?_
  rintro r w3 ⟨rfl, rfl⟩
  rw [<- HM.out]
  clear HM
  rcases (show M = 0 \/ 1 <= M by omega) with h0 | h1
  case inl =>
   subst h0
   have hmin : min (1 : Int) 0 = 0 := by decide
   by_cases hlo : amount < 0
   ·have t4 : decide (amount < 0) = true := decide_eq_true hlo
    have HF := hI (show R = false by
     have : decide (min 1 0 <= amount) = false := decide_eq_false (by omega)
     rw [HR2.out, this]; rfl)
    clear hlo
    go_wp2_with fail
    go_ret
    exact givesE_b (by rw [HF.out]) HX2.out
   have t4 : decide (amount < 0) = false := decide_eq_false hlo
   by_cases hhi : 0 < amount
   ·have t5 : decide (0 < amount) = true := decide_eq_true hhi
    have HF := hI (show R = false by
     have : decide (amount <= 0) = false := decide_eq_false (by omega)
     rw [HR2.out, this]; simp)
    clear hlo hhi
    go_wp2_with fail
    go_ret
    exact givesE_b (by rw [HF.out]) HX2.out
   have t5 : decide (0 < amount) = false := decide_eq_false hhi
   have HR3 := hI (show R = (backsB 16 unl && decide (0 + wbN unl <= 40)) by
    have e1 : decide (min 1 0 <= amount) = true := decide_eq_true (by omega)
    have e2 : decide (amount <= 0) = true := decide_eq_true (by omega)
    rw [HR2.out, e1, e2]; rfl)
   clear hlo hhi HR2
   go_wp2_with fail
   have HWF := hI (writeBacks_calls HO.out (wbN unl + 1) unl au _ cu 1 0 w2.heap.size (w2.alloc (.cells #[.int .i64 0] 3)) (by omega) hnu2 HO6.out (by omega) (by omega) (by omega) HNU.out
    (WbsD.mono (fun p v hp => by
     have hlt : p.block < w2.heap.size := block_lt (HX2.out.cell hp)
     rw [mask_cell, if_neg (by simp; omega)]
     exact ((Ext.refl w2).alloc _).cell (HX2.out.cell hp)) _ _ HWB.out) (HX2.out.alloc _) HX2.out.size (alloc_new w2 _))
   refine HWF.out.mono ?_
   rintro r w4 ⟨m4, rfl, -, -, -, hch⟩
   have HX4 := hI (hch.ext (HX2.out.alloc _) (by have := HX2.out.size; simpa using this))
   clear hch
   go_wp2_with fail
   go_ret
   exact givesE_b (by rw [HR3.out, Nat.zero_add]) HX4.out
  have t6 : decide (1 <= M) = true := decide_eq_true h1
  have hmin : min (1 : Int) M = 1 := by omega
  by_cases hlo : amount < 1
  ·have t4 : decide (amount < 1) = true := decide_eq_true hlo
   have HF := hI (show R = false by
    have : decide (min 1 M <= amount) = false := decide_eq_false (by omega)
    rw [HR2.out, this]; rfl)
   clear hlo
   go_wp2_with fail
   go_ret
   exact givesE_b (by rw [HF.out]) HX2.out
  have t4 : decide (amount < 1) = false := decide_eq_false hlo
  by_cases hhi : M < amount
  ·have t5 : decide (M < amount) = true := decide_eq_true hhi
   have HF := hI (show R = false by
    have : decide (amount <= M) = false := decide_eq_false (by omega)
    rw [HR2.out, this]; simp)
   clear hlo hhi
   go_wp2_with fail
   go_ret
   exact givesE_b (by rw [HF.out]) HX2.out
  have t5 : decide (M < amount) = false := decide_eq_false hhi
  have HR3 := hI (show R = (backsB 16 unl && decide (0 + wbN unl <= 40)) by
   have e1 : decide (min 1 M <= amount) = true := decide_eq_true (by omega)
   have e2 : decide (amount <= M) = true := decide_eq_true (by omega)
   rw [HR2.out, e1, e2]; rfl)
  clear hlo hhi HR2
  go_wp2_with fail
  have HWF := hI (writeBacks_calls HO.out (wbN unl + 1) unl au _ cu 1 0 w2.heap.size (w2.alloc (.cells #[.int .i64 0] 3)) (by omega) hnu2 HO6.out (by omega) (by omega) (by omega) HNU.out
   (WbsD.mono (fun p v hp => by
    have hlt : p.block < w2.heap.size := block_lt (HX2.out.cell hp)
    rw [mask_cell, if_neg (by simp; omega)]
    exact ((Ext.refl w2).alloc _).cell (HX2.out.cell hp)) _ _ HWB.out) (HX2.out.alloc _) HX2.out.size (alloc_new w2 _))
  refine HWF.out.mono ?_
  rintro r w4 ⟨m4, rfl, -, -, -, hch⟩
  have HX4 := hI (hch.ext (HX2.out.alloc _) (by have := HX2.out.size; simpa using this))
  clear hch
  go_wp2_with fail
  go_ret
  exact givesE_b (by rw [HR3.out, Nat.zero_add]) HX4.out
def clausesB (l : List Cla) : Bool := decide (l.length <= 40) && l.all clauseB
theorem sclauses_calls (l : List Cla) (a : OA) (n c : Nat) (w : World) (hl : IsClas w l a n c) (ho : HasOps w) (hok : ∀ x ∈ l, x.fit) (hn : n <= 1000000000000000) :
  Calls Tryz.prog 136 #[.slice a n c] w (GivesE (.bool (clausesB l)) w) := by
 have HL := hI hl
 have HN := hI hl.len
 have HO := hI ho
 have HOK := hI hok
 obtain ⟨R, hR⟩ : ∃ R, R = clausesB l := ⟨_, rfl⟩
 rw [<- hR]
 have HR := hI (show R = (decide (l.length <= 40) && l.all clauseB) from hR)
 clear hl ho hok hR
 by_cases h40 : 40 < n
 ·have t0 : decide ((40 : Int) < (n : Int)) = true := decide_eq_true (by omega)
  have HF := hI (show R = false by rw [HR.out, decide_eq_false (by have := HN.out; omega)]; rfl)
  go_enter Tryz.func136, Tryz.ntmps136
  go_wp2_with fail
  go_ret
  exact givesE_b (by rw [HF.out]) (Ext.refl _)
 have t0 : decide ((40 : Int) < (n : Int)) = false := decide_eq_false (by omega)
 have HR2 := hI (show R = l.all clauseB by rw [HR.out, decide_eq_true (by have := HN.out; omega)]; rfl)
 clear HR
 go_enter Tryz.func136, Tryz.ntmps136
 go_wp2_with fail
 go_loopw [10] (fun t wr => ∃ k : Nat, t = .int .i64 k /\ k <= n /\ (∀ j (h : j < l.length), j < k -> clauseB l[j] = true) /\ Ext w wr) (fun t _ => n - (intOf t).toNat)
 case atStart => exact ⟨0, rfl, by omega, fun j _ h => by omega, Ext.refl _⟩
 case round =>
  obtain ⟨k, rfl, hk, hall, hxr⟩ := hrel
  have HALL := hI hall
  have HXR := hI hxr
  clear hall hxr
  by_cases hkn : k < n
  ·have hkl : k < l.length := by have := HN.out; omega
   have t1 : decide ((k : Int) < (n : Int)) = true := decide_eq_true (by omega)
   obtain ⟨b, off, v, rfl, hcla, hrow⟩ := (HL.out.ext HXR.out).at hkl
   obtain ⟨c0, c1, c2, c3, c4, c5, c6, c7, c8, c9⟩ := hrow.ten
   have HC := hI (fun (W : World) (hW : Ext wr W) => sclause_calls l[k] v W (hcla.mono hW.sub) (HO.out.ext (HXR.out.trans hW)) (HOK.out _ (List.getElem_mem hkl)))
   clear hcla hrow
   cases hcb : clauseB l[k]
   ·have HCB := hI hcb
    have HF := hI (show R = false by
     rw [HR2.out, List.all_eq_false]
     exact ⟨l[k], List.getElem_mem hkl, by rw [hcb]; simp⟩)
    clear hcb
    go_wp2_with fail
    refine (HC.out _ ((Ext.refl wr).alloc _)).mono ?_
    rintro r w3 ⟨rfl, hx3⟩
    rw [HCB.out]
    have HX3 := hI ((HXR.out.alloc _).trans hx3)
    clear hx3 c0 c1 c2 c3 c4 c5 c6 c7 c8 c9
    go_wp2_with fail
    go_ret
    exact givesE_b (by rw [HF.out]) HX3.out
   have HCB := hI hcb
   clear hcb
   go_wp2_with fail
   refine (HC.out _ ((Ext.refl wr).alloc _)).mono ?_
   rintro r w3 ⟨rfl, hx3⟩
   rw [HCB.out]
   have HX3 := hI ((HXR.out.alloc _).trans hx3)
   clear hx3 c0 c1 c2 c3 c4 c5 c6 c7 c8 c9
   go_wp2_with fail
   go_roundw
   case rel =>
    refine ⟨k + 1, by go_num, by omega, fun j hj hjk => ?_, HX3.out⟩
    by_cases e : j = k
    ·subst e; exact HCB.out
    exact HALL.out j hj (by omega)
   case measure => simp [intOf]; omega
  have t1 : decide ((k : Int) < (n : Int)) = false := decide_eq_false (by omega)
  have HF := hI (show R = true by
   rw [HR2.out, List.all_eq_true]
   intro x hx
   obtain ⟨j, hj, rfl⟩ := List.mem_iff_getElem.1 hx
   exact HALL.out j hj (by have := HN.out; omega))
  go_wp2_with fail
  go_ret
  exact givesE_b (by rw [HF.out]) HXR.out
theorem sValid1_calls (l : List Cla) (a : OA) (n c : Nat) (w : World) (hl : IsClas w l a n c) (ho : HasOps w) (hok : ∀ x ∈ l, x.fit) (hn : n <= 1000000000000000) :
  Calls Tryz.prog 106 #[.agg #[.slice a n c, .slice none 0 0]] w (GivesE (.bool (clausesB l)) w) := by
 obtain ⟨wa, hwa⟩ : ∃ wa, wa = w.alloc (.cells #[.slice a n c, .slice none 0 0] 166) := ⟨_, rfl⟩
 have hxa : Ext w wa := by rw [hwa]; exact (Ext.refl _).alloc _
 have hb : wa.heap[w.heap.size]? = some (.cells #[.slice a n c, .slice none 0 0] 166 (0, 0)) := by rw [hwa]; exact alloc_new w _
 obtain ⟨b0, b1, bf⟩ := blk2 hb
 have hltw := blk_lt hb
 have HXA := hI hxa
 have HB := hI hb
 have HC := hI (sclauses_calls l a n c wa (hl.ext hxa) (ho.ext hxa) hok hn)
 obtain ⟨R, hR⟩ : ∃ R, R = clausesB l := ⟨_, rfl⟩
 rw [<- hR] at HC ⊢
 clear hl ho hok hR hxa hb
 go_enter Tryz.func106, Tryz.ntmps106
 go_upto_region 1 with fail
 rw [<- hwa]
 clear hwa
 go_wp2_with fail
 refine HC.out.mono ?_
 rintro r w3 ⟨rfl, hx3⟩
 have HX3 := hI (HXA.out.trans hx3)
 have HB3 := hI (hx3.blk HB.out)
 clear hx3 b0 b1 bf hltw
 obtain ⟨b0, b1, bf⟩ := blk2 HB3.out
 have hltw := blk_lt HB3.out
 cases R
 ·go_wp2_with fail
  go_ret
  exact givesE_b rfl HX3.out
 go_wp2_with fail
 go_loop [18] (fun t => t = .int .i64 0) (fun _ => 0)
 case atStart => exact rfl
 case round =>
  subst hrel
  go_wp2_with fail
  go_ret
  exact givesE_b rfl HX3.out
theorem isCla_one {w : World} {g : Nat} {v : ClV} {x : Cla} {t : TypeId} (h : w.heap[g]? = some (.cells v.cells.toArray t (0, 0))) (hx : IsCla w x v) : IsClas w [x] (some ⟨g, 0, none⟩) 1 1 := by
 refine ⟨[v], ⟨rfl, Nat.le_refl _, Or.inr ⟨g, 0, rfl⟩, fun i hi => ⟨g, 0, rfl, fun j hj => ?_⟩⟩, rfl, fun i h1 h2 => ?_⟩
 ·obtain rfl : i = 0 := by simp at hi; omega
  rw [blk_cell h]
  simp only [List.getElem_cons_zero, Nat.zero_mul, Nat.zero_add, Nat.add_zero] at hj ⊢
  simp [hj]
 obtain rfl : i = 0 := by simp at h1; omega
 exact hx
theorem clausesB_one (c : Cla) : clausesB [c] = clauseB c := by simp [clausesB]
open Go.RowKit Go.Maps
def condsC (c : Cla) : List Ex := c.cond :: condsW c.unl
theorem condsC_len (c : Cla) : (condsC c).length = 1 + wbN c.unl := by simp [condsC, condsW_len]; omega
theorem sub_mask_nil (w : World) : Sub w (mask w []) := fun p v hp => by rw [mask_cell, if_neg (by simp)]; exact hp
theorem owns_newC (w : World) (arr : Array Value) (e : TypeId) {size n base : Nat} (hs : arr.size = n * size) (hn : n <= maxLen) (hb : base <= w.heap.size) : (w.alloc (.cells arr e)).ownsRow base e size (.slice (some ⟨w.heap.size, 0, none⟩) n n) n arr.toList :=
 ⟨by simpa using hs, Or.inr ⟨w.heap.size, n, arr, rfl, hb, alloc_new w _, Nat.le_refl _, hn, hs, by rw [List.take_of_length_le (by simp; omega)]⟩⟩
def CondQ (c : Cla) (w : World) (e : Ending) (w' : World) : Prop := ∃ a n k, e = .returned (.slice a n k) /\ n = (condsC c).length /\ n <= k /\ ExsD w' (condsC c) a /\ Ext w w'
theorem conditions_calls (c : Cla) (v : ClV) (w : World) (hc : IsCla w c v) (hn : wbN c.unl <= 9000) :
  Calls Tryz.prog 82 #[.agg #[.int .i64 v.kind, .string v.name, .int .i64 v.x.op, .string v.x.name, .slice v.x.aw v.x.nw v.x.cw, .int .i64 v.x.lo, .int .i64 v.x.hi, .slice v.x.aa v.x.na v.x.ca, .slice v.au v.nu v.cu, .int .i64 v.amount]] w (CondQ c w) := by
 obtain ⟨-, -, hex, hnu, -, -, hwb, -⟩ := hc
 have HEX := hI hex
 have HWB := hI hwb
 have HNU := hI hnu
 obtain ⟨wa, hwa⟩ : ∃ wa, wa = w.alloc (.cells #[.int .i64 v.kind, .string v.name, .int .i64 v.x.op, .string v.x.name, .slice v.x.aw v.x.nw v.x.cw, .int .i64 v.x.lo, .int .i64 v.x.hi, .slice v.x.aa v.x.na v.x.ca, .slice v.au v.nu v.cu, .int .i64 v.amount] 48) := ⟨_, rfl⟩
 have hxa : Ext w wa := by rw [hwa]; exact (Ext.refl _).alloc _
 have hb : wa.heap[w.heap.size]? = some (.cells #[.int .i64 v.kind, .string v.name, .int .i64 v.x.op, .string v.x.name, .slice v.x.aw v.x.nw v.x.cw, .int .i64 v.x.lo, .int .i64 v.x.hi, .slice v.x.aa v.x.na v.x.ca, .slice v.au v.nu v.cu, .int .i64 v.amount] 48 (0, 0)) := by rw [hwa]; exact alloc_new w _
 have HXA := hI hxa
 obtain ⟨b0, b1, b2, b3, b4, b5, b6, b7, b8, b9, bf⟩ := blk10r hb
 have hltw := blk_lt hb
 clear hxa hb hex hwb hnu
 go_enter Tryz.func82, Tryz.ntmps82
 go_upto_region 1 with fail
 rw [<- hwa]
 clear hwa
 obtain ⟨wx, hwx⟩ : ∃ wx, wx = wa.alloc (.cells #[.int .i64 v.x.op, .string v.x.name, .slice v.x.aw v.x.nw v.x.cw, .int .i64 v.x.lo, .int .i64 v.x.hi, .slice v.x.aa v.x.na v.x.ca] 45) := ⟨_, rfl⟩
 have HXX := hI (show Ext wa wx by rw [hwx]; exact (Ext.refl _).alloc _)
 have HOW := hI (show wx.ownsRow wa.heap.size 45 6 (.slice (some ⟨wa.heap.size, 0, none⟩) 1 1) 1 v.x.cells by rw [hwx]; exact owns_newC wa #[.int .i64 v.x.op, .string v.x.name, .slice v.x.aw v.x.nw v.x.cw, .int .i64 v.x.lo, .int .i64 v.x.hi, .slice v.x.aa v.x.na v.x.ca] 45 (by simp) (by unfold maxLen; omega) (Nat.le_refl _))
 have HEC := hI (exceptions_calls (wbN c.unl + 1) c.unl v.au v.nu v.cu wa.heap.size (.slice (some ⟨wa.heap.size, 0, none⟩) 1 1) 1 v.x.cells wx (by omega) HNU.out (by omega) HWB.out (HXA.out.trans HXX.out) HXA.out.size HXX.out.size HOW.out)
 go_wp2_with fail
 rw [<- hwx]
 clear hwx
 refine HEC.out.mono ?_
 rintro r w3 ⟨v3, ys, rfl, hown, hys, hch, hfr⟩
 have HO3 := hI hown
 have HY3 := hI hys
 have HX3 := hI (show Ext w w3 from hch.ext (HXA.out.trans HXX.out) (fun y hy => by have h1 := (HOW.out.lt y (mem_rowOf.1 hy)).1; have := HXA.out.size; omega))
 clear hown hys hch hfr b0 b1 b2 b3 b4 b5 b6 b7 b8 b9 bf hltw HEC
 obtain ⟨a3, c3, hv3⟩ := owns_formG HO3.out
 subst hv3
 go_wp2_with fail
 go_ret
 have hl : (condsC c).length = 1 + wbN c.unl := condsC_len c
 have hR : ExsR w (condsC c) (v.x :: ys) := by
  have h1 : ExsR w [c.cond] [v.x] := (ExsR.nil w).snoc HEX.out
  simpa [condsC] using h1.app HY3.out
 obtain ⟨a', c', e', h1, h2, h3⟩ := exs_owns (M := []) (l := condsC c) (xs := v.x :: ys) (by rw [hl]; simpa using HO3.out) (by simp) (hR.mono (HX3.out.sub.trans (sub_mask_nil _)))
 rw [hl] at e'
 simp only [Value.slice.injEq, true_and] at e'
 obtain ⟨rfl, rfl⟩ := e'
 exact ⟨_, _, _, rfl, hl.symm, by rw [<- hl]; exact h1, ExsD.mono (mask_sub _ _) _ _ h3, HX3.out⟩
theorem nodesErrL_app (s : List Attr) (l : List Cla) : (a b : List Ex) -> nodesErrL s l (a ++ b) = if nodesErrL s l a ≠ 0 then nodesErrL s l a else nodesErrL s l b
 | [], b => by simp [nodesErrL]
 | e :: r, b => by
  have ih := nodesErrL_app s l r b
  simp only [List.cons_append]
  rw [nodesErrL, nodesErrL, ih]
  by_cases h : nodesErr s l e ≠ 0
  ·rw [if_pos h, if_pos h, if_pos h]
  rw [if_neg h, if_neg h]
theorem backsErr_conds (s : List Attr) (l : List Cla) : (u : List Wb) -> backsErr s l u = nodesErrL s l (condsW u)
 | [] => by rw [backsErr, condsW, nodesErrL]
 | .mk n c u :: r => by
  rw [backsErr, condsW, nodesErrL, nodesErrL_app, backsErr_conds s l u, backsErr_conds s l r]
theorem backsLarge_conds (l : List Cla) : (u : List Wb) -> backsLarge l u = (condsW u).any fun x => decide (2000 < expanded l x)
 | [] => by rw [backsLarge, condsW]; rfl
 | .mk n c u :: r => by
  rw [backsLarge, condsW, backsLarge_conds l u, backsLarge_conds l r]
  simp [List.any_append, Bool.or_assoc]
theorem backs_refs : (d : Nat) -> (u : List Wb) -> backsB d u = true -> ∀ x ∈ condsW u, refExprB x = true
 | _, [], _, x, hx => by simp [condsW] at hx
 | d, .mk n c u :: r, h, x, hx => by
  rw [backsB] at h
  simp only [Bool.and_eq_true] at h
  rw [condsW] at hx
  rcases List.mem_cons.1 hx with rfl | hx
  ·exact h.1.1.2
  rcases List.mem_append.1 hx with hx | hx
  ·exact backs_refs _ u h.1.2 x hx
  exact backs_refs _ r h.2 x hx
theorem clause_refs {c : Cla} (h : clauseB c = true) : (∀ x ∈ condsC c, refExprB x = true) /\ wbN c.unl <= 40 := by
 have h0 := clauseB_cond h
 rw [clauseB_eq] at h
 simp only [Bool.and_eq_true, decide_eq_true_eq] at h
 refine ⟨fun x hx => ?_, by have := h.2.2; omega⟩
 rcases List.mem_cons.1 hx with rfl | hx
 ·exact h0
 exact backs_refs _ _ h.2.1 x hx
theorem conds_fit : (u : List Wb) -> wbFits u -> ∀ x ∈ condsW u, x.fits /\ x.few
 | [], _, x, hx => by simp [condsW] at hx
 | .mk n c u :: r, h, x, hx => by
  rw [wbFits] at h
  rw [condsW] at hx
  rcases List.mem_cons.1 hx with rfl | hx
  ·exact ⟨h.2.1, h.2.2.1⟩
  rcases List.mem_append.1 hx with hx | hx
  ·exact conds_fit u h.2.2.2.2.2.1 x hx
  exact conds_fit r h.2.2.2.2.2.2 x hx
theorem condsC_fit {c : Cla} (h : c.fit) : ∀ x ∈ condsC c, x.fits /\ x.few := fun x hx => by
 rcases List.mem_cons.1 hx with rfl | hx
 ·exact ⟨h.2.1, h.2.2.1⟩
 exact conds_fit _ h.2.2.2.2.2 x hx
def ccErr (s : List Attr) (l : List Cla) (bef : List Cla) (c : Cla) : Int :=
 if clauseB c = false then 5 else if (findAt bef c.name).isSome then 8 else if (attrAt s c.name).isSome then 8 else nodesErrL s l (condsC c)
theorem ccErr_eq (s : List Attr) (l : List Cla) {i : Nat} (hi : i < l.length) : ccErr s l (l.take i) l[i] = claErr s l i := by
 unfold ccErr claErr
 rw [getD_cla hi]
 have hf : (findAt (l.take i) l[i].name).isSome = decide ((findAt l l[i].name).getD 0 < i) := by
  unfold findAt
  cases h : l.findIdx? (fun c => decide (c.name = l[i].name)) with
  | none =>
   rw [List.findIdx?_eq_none_iff] at h
   have := h l[i] (List.getElem_mem hi)
   simp at this
  | some f =>
   rw [List.findIdx?_eq_some_iff_getElem] at h
   obtain ⟨hf, h1, h2⟩ := h
   by_cases hfi : f < i
   ·have : (l.take i).findIdx? (fun c => decide (c.name = l[i].name)) = some f := by
     rw [List.findIdx?_eq_some_iff_getElem]
     exact ⟨by simp; omega, by simpa using h1, fun j hj => by simpa using h2 j hj⟩
    rw [this]
    simp [hfi]
   have : (l.take i).findIdx? (fun c => decide (c.name = l[i].name)) = none := by
    rw [List.findIdx?_eq_none_iff]
    intro x hx
    obtain ⟨j, hj, rfl⟩ := List.mem_iff_getElem.1 hx
    have := h2 j (by simp at hj; omega)
    simpa using this
   rw [this]
   simp [hfi]
 rw [hf, backsErr_conds]
 have hc : nodesErrL s l (condsC l[i]) = if nodesErr s l l[i].cond ≠ 0 then nodesErr s l l[i].cond else nodesErrL s l (condsW l[i].unl) := by rw [condsC, nodesErrL]
 rw [hc]
 simp only [decide_eq_true_eq]
theorem cclause_calls (s : List Attr) (hse : schemaErr s = 0) (l bef : List Cla) (hf : ∀ x ∈ s, x.fits) (hsl : s.length <= 1000000000000000) (bm nm : Nat) (ba : OA) (bn bc : Nat) (c : Cla) (v : ClV) (sv : Value) (w : World) (hok : c.fit) (ho : HasOps w) (hs : IsSchema w s sv) (hd : DefsAt w l bm nm) (hb : IsClas w bef ba bn bc) (hbn : bn <= 1000000000000000) (hc : IsCla w c v) :
  Calls Tryz.prog 79 #[sv, .map (some bm), .slice ba bn bc, .agg #[.int .i64 v.kind, .string v.name, .int .i64 v.x.op, .string v.x.name, .slice v.x.aw v.x.nw v.x.cw, .int .i64 v.x.lo, .int .i64 v.x.hi, .slice v.x.aa v.x.na v.x.ca, .slice v.au v.nu v.cu, .int .i64 v.amount]] w (GivesE (.int .i64 (ccErr s l bef c)) w) := by
 obtain ⟨sa, sn, sc, rfl, hsn⟩ := hs.slice
 have HS := hI hs
 have HD := hI hd
 have HC := hI hc
 have HOK := hI hok
 have HVA := hI (fun (W : World) (hW : Ext w W) (g : Nat) (hg : W.heap[g]? = some (.cells v.cells.toArray 48 (0, 0))) => sValid1_calls [c] (some ⟨g, 0, none⟩) 1 1 W (isCla_one hg (hc.mono hW.sub)) (ho.ext hW) (by simpa using hok) (by omega))
 have HFI := hI (fun (W : World) (hW : Ext w W) => sFind_calls bef ba bn bc v.name W (hb.ext hW) hbn)
 have HIX := hI (fun (W : World) (hW : Ext w W) => sIndex_calls s (.agg #[.slice sa sn sc]) v.name W (hs.ext hW) hsl)
 have HXE := hI (fun (e : Ex) (ev : Value) (W : World) (hW : Ext w W) (h1 : e.few) (h2 : e.fits) (he : IsEx W e ev) => cexpression_calls s hse l hf hsl bm nm e ev (.agg #[.slice sa sn sc]) W h1 h2 (ho.ext hW) (hs.ext hW) (hd.ext hW) he)
 rw [clausesB_one] at HVA
 have hnm : v.name = c.name := hc.2.1
 obtain ⟨R, hR⟩ : ∃ R, R = ccErr s l bef c := ⟨_, rfl⟩
 rw [<- hR]
 have HR := hI (show R = if clauseB c = false then 5 else if (findAt bef v.name).isSome then 8 else if (attrAt s v.name).isSome then 8 else nodesErrL s l (condsC c) by rw [hnm]; exact hR)
 clear hnm
 obtain ⟨wa, hwa⟩ : ∃ wa, wa = (w.alloc (.cells #[.slice sa sn sc] 24)).alloc (.cells #[.int .i64 v.kind, .string v.name, .int .i64 v.x.op, .string v.x.name, .slice v.x.aw v.x.nw v.x.cw, .int .i64 v.x.lo, .int .i64 v.x.hi, .slice v.x.aa v.x.na v.x.ca, .slice v.au v.nu v.cu, .int .i64 v.amount] 48) := ⟨_, rfl⟩
 have hxa : Ext w wa := by rw [hwa]; exact ((Ext.refl _).alloc _).alloc _
 have hb0 : wa.heap[w.heap.size]? = some (.cells #[.slice sa sn sc] 24 (0, 0)) := by rw [hwa]; exact blk_alloc (alloc_new w _)
 have hb1 : wa.heap[w.heap.size + 1]? = some (.cells #[.int .i64 v.kind, .string v.name, .int .i64 v.x.op, .string v.x.name, .slice v.x.aw v.x.nw v.x.cw, .int .i64 v.x.lo, .int .i64 v.x.hi, .slice v.x.aa v.x.na v.x.ca, .slice v.au v.nu v.cu, .int .i64 v.amount] 48 (0, 0)) := by rw [hwa]; exact alloc_atR (by simp)
 have HXA := hI hxa
 have HB0 := hI hb0
 have HB1 := hI hb1
 obtain ⟨b0, b1, b2, b3, b4, b5, b6, b7, b8, b9, bf⟩ := blk10r hb1
 have hlt1 := blk_lt hb1
 clear hs hd hc hok hb ho hR hsn hxa hb0 hb1 hf
 go_enter Tryz.func79, Tryz.ntmps79
 go_upto_region 1 with fail
 rw [<- hwa]
 clear hwa
 obtain ⟨wx, hwx⟩ : ∃ wx, wx = wa.alloc (.cells #[.int .i64 v.kind, .string v.name, .int .i64 v.x.op, .string v.x.name, .slice v.x.aw v.x.nw v.x.cw, .int .i64 v.x.lo, .int .i64 v.x.hi, .slice v.x.aa v.x.na v.x.ca, .slice v.au v.nu v.cu, .int .i64 v.amount] 48) := ⟨_, rfl⟩
 have hxx : Ext wa wx := by rw [hwx]; exact (Ext.refl _).alloc _
 have HBX := hI (show wx.heap[wa.heap.size]? = some (.cells v.cells.toArray 48 (0, 0)) by rw [hwx]; exact alloc_new wa _)
 have HXX := hI (HXA.out.trans hxx)
 have HB0 := hI (hxx.blk HB0.out)
 have HB1 := hI (hxx.blk HB1.out)
 clear hxx
 go_wp2_with fail
 rw [<- hwx]
 clear hwx
 refine (HVA.out wx HXX.out wa.heap.size HBX.out).mono ?_
 rintro r w3 ⟨rfl, hx3⟩
 have HX3 := hI (HXX.out.trans hx3)
 have HB03 := hI (hx3.blk HB0.out)
 have HB13 := hI (hx3.blk HB1.out)
 clear hx3 b0 b1 b2 b3 b4 b5 b6 b7 b8 b9 bf hlt1 HVA
 obtain ⟨CB, hCB⟩ : ∃ CB, CB = clauseB c := ⟨_, rfl⟩
 rw [<- hCB] at HR ⊢
 have HCB := hI hCB
 clear hCB
 cases CB
 ·have HQ := hI (show R = 5 by rw [HR.out]; rfl)
  go_wp2_with fail
  go_ret
  exact givesE_of (by rw [HQ.out]) HX3.out
 have HR2 := hI (show R = if (findAt bef v.name).isSome then 8 else if (attrAt s v.name).isSome then 8 else nodesErrL s l (condsC c) by rw [HR.out]; rfl)
 clear HR
 obtain ⟨b0, b1, b2, b3, b4, b5, b6, b7, b8, b9, bf⟩ := blk10r HB13.out
 have hlt1 := blk_lt HB13.out
 obtain ⟨q, hq⟩ : ∃ q, q = (findAt bef v.name).getD 0 := ⟨_, rfl⟩
 obtain ⟨fb, hfb⟩ : ∃ fb, fb = (findAt bef v.name).isSome := ⟨_, rfl⟩
 have HFV := hI (show optV (findAt bef v.name) = .tuple #[.int .i64 (q : Nat), .bool fb] by rw [hq, hfb]; rfl)
 rw [<- hfb] at HR2
 clear hq hfb
 go_wp2_with fail
 refine (HFI.out w3 HX3.out).mono ?_
 rw [HFV.out]
 rintro r w4 ⟨rfl, hx4⟩
 have HX4 := hI (HX3.out.trans hx4)
 have HB04 := hI (hx4.blk HB03.out)
 have HB14 := hI (hx4.blk HB13.out)
 clear hx4 b0 b1 b2 b3 b4 b5 b6 b7 b8 b9 bf hlt1 HFI HFV
 cases fb
 case true =>
  have HQ := hI (show R = 8 by rw [HR2.out]; rfl)
  go_wp2_with fail
  go_ret
  exact givesE_of (by rw [HQ.out]) HX4.out
 have HR3 := hI (show R = if (attrAt s v.name).isSome then 8 else nodesErrL s l (condsC c) by rw [HR2.out]; rfl)
 clear HR2
 obtain ⟨a0, af⟩ := blk1 HB04.out
 obtain ⟨b0, b1, b2, b3, b4, b5, b6, b7, b8, b9, bf⟩ := blk10r HB14.out
 have hlt1 := blk_lt HB14.out
 obtain ⟨q, hq⟩ : ∃ q, q = (attrAt s v.name).getD 0 := ⟨_, rfl⟩
 obtain ⟨fb, hfb⟩ : ∃ fb, fb = (attrAt s v.name).isSome := ⟨_, rfl⟩
 have HFV := hI (show optV (attrAt s v.name) = .tuple #[.int .i64 (q : Nat), .bool fb] by rw [hq, hfb]; rfl)
 rw [<- hfb] at HR3
 clear hq hfb
 go_wp2_with fail
 refine (HIX.out w4 HX4.out).mono ?_
 rw [HFV.out]
 rintro r w5 ⟨rfl, hx5⟩
 have HX5 := hI (HX4.out.trans hx5)
 have HB05 := hI (hx5.blk HB04.out)
 have HB15 := hI (hx5.blk HB14.out)
 clear hx5 a0 af b0 b1 b2 b3 b4 b5 b6 b7 b8 b9 bf hlt1 HIX HFV
 cases fb
 case true =>
  have HQ := hI (show R = 8 by rw [HR3.out]; rfl)
  go_wp2_with fail
  go_ret
  exact givesE_of (by rw [HQ.out]) HX5.out
 have HR4 := hI (show R = nodesErrL s l (condsC c) by rw [HR3.out]; rfl)
 clear HR3
 obtain ⟨b0, b1, b2, b3, b4, b5, b6, b7, b8, b9, bf⟩ := blk10r HB15.out
 have hlt1 := blk_lt HB15.out
 have hwb := (clause_refs HCB.out.symm).2
 have HRF := hI (clause_refs HCB.out.symm).1
 have HFT := hI (condsC_fit HOK.out)
 have HCN := hI (conditions_calls c v w5 (HC.out.mono HX5.out.sub) (by omega))
 go_wp2_with fail
 refine HCN.out.mono ?_
 rintro r w6 ⟨ea, en, ek, rfl, hen, henk, hed, hx6⟩
 have HX6 := hI (HX5.out.trans hx6)
 have HB06 := hI (hx6.blk HB05.out)
 have HED := hI hed
 have HEN := hI hen
 have hen2 : en <= 41 := by have := condsC_len c; omega
 clear hx6 hed hen b0 b1 b2 b3 b4 b5 b6 b7 b8 b9 bf hlt1 HCN
 go_wp2_with fail
 go_loopw [40] (fun t wr => ∃ k : Nat, t = .int .i64 k /\ k <= en /\ (∀ j (h : j < (condsC c).length), j < k -> nodesErr s l (condsC c)[j] = 0) /\ wr.heap[w.heap.size]? = some (.cells #[.slice sa sn sc] 24 (0, 0)) /\ Ext w6 wr) (fun t _ => en - (intOf t).toNat)
 case atStart => exact ⟨0, rfl, by omega, fun j _ h => by omega, HB06.out, Ext.refl _⟩
 case round =>
  obtain ⟨k, rfl, hk, hall, hbx, hxr⟩ := hrel
  have HALL := hI hall
  have HBX2 := hI hbx
  have HXR := hI hxr
  obtain ⟨a0, af⟩ := blk1 hbx
  have hlt0 := blk_lt hbx
  clear hall hbx hxr
  by_cases hkn : k < en
  ·have hkl : k < (condsC c).length := by have := HEN.out; omega
   have t1 : decide ((k : Int) < (en : Int)) = true := decide_eq_true (by omega)
   obtain ⟨b, off, rfl, aw1, nw1, cw1, aa1, na1, ca1, h0, h1, h2, h3, h4, h5, h6⟩ := ExsD.at (condsC c) _ (ExsD.ext HXR.out (condsC c) _ HED.out) k hkl
   have hmem := List.getElem_mem hkl
   have HCX := hI (fun (W : World) (hW : Ext wr W) => HXE.out (condsC c)[k] _ W ((HX6.out.trans HXR.out).trans hW) (HFT.out _ hmem).2 (HFT.out _ hmem).1 (h6.ext hW))
   have HEE := hI (show exprnErr s l (condsC c)[k] = nodesErr s l (condsC c)[k] by unfold exprnErr; rw [HRF.out _ hmem]; simp)
   have hblt := block_lt h0
   simp only at hblt
   unfold exV at HCX
   clear h6 hmem
   rw [HEE.out] at HCX
   obtain ⟨E1, hE1⟩ : ∃ E1, E1 = nodesErr s l (condsC c)[k] := ⟨_, rfl⟩
   rw [<- hE1] at HCX
   have HE1 := hI hE1
   clear hE1
   go_wp2_with fail
   refine (HCX.out _ ((Ext.refl wr).alloc _)).mono ?_
   rintro r w7 ⟨rfl, hx7⟩
   have HX7 := hI ((HXR.out.alloc _).trans hx7)
   have HB7 := hI (hx7.blk (blk_alloc HBX2.out))
   clear hx7 h0 h1 h2 h3 h4 h5 a0 af hlt0 HCX
   by_cases hz1 : E1 = 0
   ·have tz1 : (E1 != 0) = false := by simp [hz1]
    have HZ1 := hI (HE1.out.symm.trans hz1)
    clear hz1
    go_wp2_with fail
    go_roundw
    case rel =>
     refine ⟨k + 1, by go_num, by omega, fun j hj hjk => ?_, HB7.out, HX7.out⟩
     by_cases e0 : j = k
     ·subst e0; exact HZ1.out
     exact HALL.out j hj (by omega)
    case measure => simp [intOf]; omega
   have tz1 : (E1 != 0) = true := by simp [hz1]
   have HQ := hI (show R = E1 by rw [HR4.out, nodesErrL_hit (condsC c) k hkl (by rw [<- HE1.out]; exact hz1) (fun j hj => HALL.out j (by omega) hj), HE1.out])
   clear hz1
   go_wp2_with fail
   go_ret
   exact givesE_of (by rw [HQ.out]) (HX6.out.trans HX7.out)
  have t1 : decide ((k : Int) < (en : Int)) = false := decide_eq_false (by omega)
  have HQ := hI (show R = 0 by rw [HR4.out, nodesErrL_zero (condsC c) fun j hj => HALL.out j hj (by have := HEN.out; omega)])
  go_wp2_with fail
  go_ret
  exact givesE_of (by rw [HQ.out]) (HX6.out.trans HXR.out)
theorem sizesF_le (l : List Cla) : (o : ZN) -> ∀ s n, sizesF l o s = some n -> n <= 2001 := by
 intro o
 generalize hm : o.length = m
 induction m generalizing o with
 | zero => intro s n h; rw [List.eq_nil_of_length_eq_zero hm] at h; simp [sizesF] at h
 | succ m ih =>
  intro s n h
  have hne : o ≠ [] := by intro e; rw [e] at hm; cases hm
  obtain ⟨r, i, rfl⟩ : ∃ r i, o = r ++ [i] := ⟨o.dropLast, o.getLast hne, (List.dropLast_concat_getLast hne).symm⟩
  have hr := ih r (by simpa using hm)
  rw [sizesF_snoc] at h
  by_cases e : s = (l.getD i cla0).name
  ·rw [if_pos e] at h
   cases h
   exact szE_le hr _
  rw [if_neg e] at h
  exact hr s n h
theorem natF_step {l : List Cla} {o : ZN} {i : Nat} (x : Lit) : setF (strF (natF (sizesF l o))) (.string (l.getD i cla0).name.data.toList) (some (.int .i64 (szE (sizesF l o) (l.getD i cla0).cond))) x = strF (natF (sizesF l (o ++ [i]))) x := by
 rw [setF_str]
 cases x <;> try rfl
 rename_i bs
 simp only [strF]
 by_cases e : (⟨bs.toArray⟩ : BA) = (l.getD i cla0).name
 ·rw [e, upS_same, natF, sizesF_snoc, if_pos rfl]
  rfl
 rw [upS_other _ _ e, natF, natF, sizesF_snoc, if_neg e]
theorem wpOp_last {P : Program} {ops : Array Oper} {Q : Exit -> Act -> World -> Prop} {a : Act} {w : World} {i : Nat} {o : Oper} (ho : ops[i]? = some o) (h : wpList P ops Q [o] a w) : wpOp P ops Q i (fun a w => Q .normal a w) a w := by
 unfold wpOp
 rw [ho]
 exact h
def sizV (bf cb coff n c i : Nat) (v : ClV) (z : Nat) : Nat -> Value
 | 0 => .map (some bf) | 6 => .map (some bf)
 | 1 => .slice (some ⟨cb, coff, none⟩) n c | 7 => .slice (some ⟨cb, coff, none⟩) n c
 | 2 => .int .i64 i | 8 => .int .i64 i
 | 3 => .pointer (some ⟨cb, coff + i * 10, none⟩) | 9 => .pointer (some ⟨cb, coff + i * 10, none⟩)
 | 4 => .pointer (some ⟨cb, coff + i * 10 + 1, none⟩) | 10 => .pointer (some ⟨cb, coff + i * 10 + 2, none⟩)
 | 5 => .string v.name
 | 11 => .agg #[.int .i64 v.x.op, .string v.x.name, .slice v.x.aw v.x.nw v.x.cw, .int .i64 v.x.lo, .int .i64 v.x.hi, .slice v.x.aa v.x.na v.x.ca]
 | _ => .int .i64 z
def SizG (wr W : World) : Prop := Ext wr W
def SizE (_ : Nat) (W W' : World) : Prop := Ext W W'
def SizR (f : Nat -> Value) (j : Nat) (u : Value) (_ : World) : Prop := u = f j
def SizesQ (l : List Cla) (o : ZN) (w : World) (e : Ending) (w' : World) : Prop := ∃ b, e = .returned (.map (some b)) /\ MapAt w' 9 b o.length (strF (natF (sizesF l o))) /\ Ext w w'
theorem sizes_calls (l : List Cla) (a : OA) (n c : Nat) (o : ZN) (oa : OA) (oc : Nat) (w : World) (hl : IsClas w l a n c) (_hn : n <= 1000000) (ho : IsInts w (ints o) oa o.length oc) (hol : o.length <= 1000000) (hlt : ∀ i ∈ o, i < l.length)
  (hsz : ∀ x ∈ l, x.name.size <= 1000000000000000 /\ x.cond.size <= 1000000000000000 /\ x.cond.fits) :
  Calls Tryz.prog 81 #[.slice a n c, .slice oa o.length oc] w (SizesQ l o w) := by
 have HL := hI hl
 have HN := hI hl.len
 have HSZ := hI hsz
 have HO := hI ho
 have HLT := hI hlt
 clear hl hsz ho hlt
 have hmm := @run_makeMap Tryz.prog
 have HM0 := hI (MapAt.made w 9)
 have HX0 := hI ((Ext.refl w).alloc (.map #[] 0))
 obtain ⟨bf, hbf⟩ : ∃ bf : Nat, bf = w.heap.size := ⟨_, rfl⟩
 rw [<- hbf] at HM0
 have HBF := hI hbf
 go_enter Tryz.func81, Tryz.ntmps81
 go_wp2_with fail
 rw [<- hbf]
 clear hbf hmm
 go_loopw [11] (fun i wr => ∃ k : Nat, k <= o.length /\ i = .int .i64 k /\ MapAt wr 9 bf k (strF (natF (sizesF l (o.take k)))) /\ Ext w wr) (fun i _ => o.length - (intOf i).toNat)
 case atStart =>
  refine ⟨0, by omega, rfl, HM0.out.congr fun x => ?_, HX0.out⟩
  cases x <;> simp [strF, natF, sizesF]
 case round =>
  obtain ⟨k, hk, rfl, hmap, hx⟩ := hrel
  have HMP := hI hmap
  have HX := hI hx
  have hbw := hmap.lt
  clear hmap hx HM0 HX0
  by_cases hlt : k < o.length
  ·have t1 : decide ((k : Int) < (o.length : Int)) = true := decide_eq_true (by omega)
   obtain ⟨ob, ooff, rfl, oc1⟩ := (HO.out.mono HX.out.sub).2.2.2 k (by simpa [ints] using hlt)
   obtain ⟨i, hi⟩ : ∃ i, i = o[k] := ⟨_, rfl⟩
   have e1 : (ints o)[k]'(by simpa [ints] using hlt) = (i : Int) := by simp [ints, hi]
   rw [e1] at oc1
   have hil : i < l.length := HLT.out i (by rw [hi]; exact List.getElem_mem hlt)
   have hin : i < n := by have := HN.out; omega
   obtain ⟨cb, coff, v, rfl, hcla, hrow⟩ := (HL.out.ext HX.out).at hil
   obtain ⟨c0, c1, c2, c3, c4, c5, c6, c7, c8, c9⟩ := hrow.ten
   have hszi := HSZ.out _ (List.getElem_mem hil)
   have hns : v.name.size <= 1000000000000000 := by rw [hcla.2.1]; exact hszi.1
   have HEX := hI (show IsEx wr l[i].cond (.agg #[.int .i64 v.x.op, .string v.x.name, .slice v.x.aw v.x.nw v.x.cw, .int .i64 v.x.lo, .int .i64 v.x.hi, .slice v.x.aa v.x.na v.x.ca]) from hcla.2.2.1)
   have HST := hI (@natF_step l (o.take k) i)
   have e2 : o.take k ++ [i] = o.take (k + 1) := by rw [hi, List.take_succ_eq_append_getElem hlt]
   rw [getD_cla hil, <- hcla.2.1, e2] at HST
   have HSI := hI hszi
   have ti0 : (0 : Int) <= (i : Int) := by omega
   have ti1 : (i : Int) < (n : Int) := by omega
   clear hcla hrow e1 e2 hi hszi
   go_upto_region 5 with fail
   have HCE := hI (fun (W : World) (hW : Ext wr W) => cexp_calls (sizesF l (o.take k)) (sizesF_le l _) bf k 1000000000000000 l[i].cond _ W HSI.out.2.1 (by omega) HSI.out.2.2 (HMP.out.ext hW) (HEX.out.ext hW))
   obtain ⟨Z, hZ⟩ : ∃ Z, Z = szE (sizesF l (o.take k)) l[i].cond := ⟨_, rfl⟩
   rw [<- hZ] at HCE HST
   clear hZ
   refine wp_region_grow (m := 13) [0, 5, 12] (SizG wr) SizE (SizR (sizV bf cb coff n c i v Z)) (by kernel_rfl) (by kernel_rfl) ((Ext.refl wr).drew) ?_ ?_ ?_
   ·exact fun _ _ _ _ _ _ _ _ _ h _ => h
   ·intro q op hq ho vs W hW hd ρ hρ
    have hq' := ltc13 hq
    clear hq
    have o5 : ρ (.tmp 5) = .map (some bf) := hρ.out 5 rfl
    have o0 : ρ (.tmp 0) = .slice (some ⟨cb, coff, none⟩) n c := hρ.out 0 rfl
    have o7 : ρ (.tmp 7) = .int .i64 i := hρ.out 7 rfl
    have i1 := hρ.i 1 16
    have i2 := hρ.i 2 17
    have i3 := hρ.i 3 18
    have i4 := hρ.i 4 19
    have i7 := hρ.i 7 22
    have i8 := hρ.i 8 23
    have i9 := hρ.i 9 24
    have i10 := hρ.i 10 25
    have i6 := hρ.i 6 21
    have i11 := hρ.i 11 26
    have hc := hρ.const
    have hfn := hρ.func
    clear hρ
    have hW : Ext wr W := hW
    have HW := hI hW
    clear hW
    rcases hq' with rfl | rfl | rfl | rfl | rfl | rfl | rfl | rfl | rfl | rfl | rfl | rfl | rfl
    ·cases ho; unfold GivesOp; go_simp; exact ⟨Ext.refl W, rfl⟩
    ·cases ho; unfold GivesOp; go_simp; exact ⟨Ext.refl W, rfl⟩
    ·cases ho; unfold GivesOp; go_simp; exact ⟨Ext.refl W, rfl⟩
    ·cases ho
     have h1 : vs 1 = _ := hd ⟨1, .data⟩ (by simp) rfl
     have h2 : vs 2 = _ := hd ⟨2, .data⟩ (by simp) rfl
     rw [h1] at i1; rw [h2] at i2
     simp only [sizV] at i1 i2
     unfold GivesOp; go_simp; exact ⟨Ext.refl W, rfl⟩
    ·cases ho
     have h3 : vs 3 = _ := hd ⟨3, .data⟩ (by simp) rfl
     rw [h3] at i3
     simp only [sizV] at i3
     unfold GivesOp; go_simp; exact ⟨Ext.refl W, rfl⟩
    ·cases ho
     have h4 : vs 4 = _ := hd ⟨4, .data⟩ (by simp) rfl
     rw [h4] at i4
     simp only [sizV] at i4
     have g1 := HW.out.cell c1
     unfold GivesOp; go_simp; exact ⟨Ext.refl W, rfl⟩
    ·cases ho; unfold GivesOp; go_simp; exact ⟨Ext.refl W, rfl⟩
    ·cases ho; unfold GivesOp; go_simp; exact ⟨Ext.refl W, rfl⟩
    ·cases ho; unfold GivesOp; go_simp; exact ⟨Ext.refl W, rfl⟩
    ·cases ho
     have h1 : vs 7 = _ := hd ⟨7, .data⟩ (by simp) rfl
     have h2 : vs 8 = _ := hd ⟨8, .data⟩ (by simp) rfl
     rw [h1] at i7; rw [h2] at i8
     simp only [sizV] at i7 i8
     unfold GivesOp; go_simp; exact ⟨Ext.refl W, rfl⟩
    ·cases ho
     have h3 : vs 9 = _ := hd ⟨9, .data⟩ (by simp) rfl
     rw [h3] at i9
     simp only [sizV] at i9
     unfold GivesOp; go_simp; exact ⟨Ext.refl W, rfl⟩
    ·cases ho
     have h4 : vs 10 = _ := hd ⟨10, .data⟩ (by simp) rfl
     rw [h4] at i10
     simp only [sizV] at i10
     have g2 := HW.out.cell c2
     have g3 := HW.out.cell c3
     have g4 := HW.out.cell c4
     have g5 := HW.out.cell c5
     have g6 := HW.out.cell c6
     have g7 := HW.out.cell c7
     unfold GivesOp; go_simp; exact ⟨Ext.refl W, rfl⟩
    cases ho
    have h6 : vs 6 = _ := hd ⟨6, .data⟩ (by simp) rfl
    have h11 : vs 11 = _ := hd ⟨11, .data⟩ (by simp) rfl
    rw [h6] at i6; rw [h11] at i11
    simp only [sizV] at i6 i11
    unfold GivesOp
    go_simp
    refine (HCE.out W HW.out).mono ?_
    rintro r w3 ⟨rfl, hx3⟩
    exact ⟨_, rfl, hx3, HW.out.trans hx3, rfl⟩ 
   intro vs W hW hR
   rw [if_neg (by decide +kernel)]
   have h0 : vs 0 = _ := hR 0 (by simp) (by omega)
   have h5 : vs 5 = _ := hR 5 (by simp) (by omega)
   have h12 : vs 12 = _ := hR 12 (by simp) (by omega)
   simp only [sizV] at h0 h5 h12
   simp only [acts, dstAt, List.range, List.range.loop, List.foldl_cons, List.foldl_nil, h0, h5, h12]
   have hmx := HMP.out.ext hW
   refine wpOp_last rfl ?_
   change wpList _ _ _ [⟨none, .mapUpdate _ (.tmp 15) (.tmp 20) (.tmp 27), _, _, _, none⟩] _ _
   go_simp
   refine wpList_map_put _ rfl _ _ _ 136 rfl 9 3 keyedStr uMapSI bf k _ rfl hmx ?c3 _ _ _ rfl rfl (keyStr hns) trivial ?_
   case c3 => unfold maxLen; omega
   intro w1 hm1 hc1
   have HM1 := hI (hm1.congr HST.out)
   have HX1 := hI (hc1.ext (HX.out.trans hW) (by rw [<- HBF.out]; simp))
   clear hm1 hc1
   go_wp2_with fail
   go_roundw
   case rel => exact ⟨k + 1, by omega, by go_num, HM1.out, HX1.out⟩
   case measure => simp [intOf]; omega
  have t1 : decide ((k : Int) < (o.length : Int)) = false := decide_eq_false (by omega)
  have HGE := hI (show MapAt wr 9 bf o.length (strF (natF (sizesF l o))) by have := HMP.out; rw [List.take_of_length_le (by omega)] at this; exact this.more hk)
  go_wp2_with fail
  go_ret
  exact ⟨bf, rfl, HGE.out, HX.out⟩
end Go.Proofs.YtefjomofjejklaaGreatDoor
