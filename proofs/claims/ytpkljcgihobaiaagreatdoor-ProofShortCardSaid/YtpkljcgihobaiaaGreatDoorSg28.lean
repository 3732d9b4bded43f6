/-
  Texts of the claim, joined: Short.
-/
import Derived.Test.YtpkljcgihobaiaaGreatDoorSg27
namespace Go.Proofs.YtpkljcgihobaiaaGreatDoor
open Go.RowKit
theorem gnbx_callD {w0 W : World} {Z : Obj} {Pd : World → Value → Prop} {M : List Nat} {kc ka : Nat} {L : List Nat} {vs : Nat → Value} (hka : ka ≠ kc) (hM : ∀ y ∈ M, y < w0.heap.size) (h : GnBx w0 Z Pd M kc ka L vs W) : ∃ Y : List Nat, (∀ y ∈ Y ++ M, y < W.heap.size) ∧ ∀ (v : Value) (W' : World) (bq : Nat), w0.heap.size ≤ bq → W.heap[bq]? ≠ some Z → Chg [bq] W W' → Pd (mask W' (Y ++ M)) v → GnBx w0 Z Pd M kc ka (L ++ [kc]) (upd vs kc v) W' := by
  have m2 : ka ∈ L ++ [kc] → ka ∈ L := fun hm => by simp at hm; rcases hm with hm | hm; exact hm; exact absurd hm hka
  have u1 : ∀ v, upd vs kc v kc = v := fun v => by unfold upd; rw [if_pos rfl]
  have u2 : ∀ v, upd vs kc v ka = vs ka := fun v => by unfold upd; rw [if_neg hka]
  have hs := h.1.size
  by_cases hk : ka ∈ L
  · obtain ⟨y, q1, q2, q3⟩ := h.2.1 hk
    refine ⟨[y], fun z hz => ?_, fun v W' bq hb hne hx hp => ⟨hx.ext h.1 (fun z hz => by simp only [List.mem_singleton] at hz; rw [hz]; exact hb), fun _ => ?_, fun _ => ?_⟩⟩
    · rcases List.mem_append.1 hz with hz | hz
      · simp only [List.mem_singleton] at hz; rw [hz]; exact blk_lt q2
      · have := hM z hz; omega
    · rw [u2]; exact ⟨y, q1, hx.blk q2 (fun hm => by simp only [List.mem_singleton] at hm; subst hm; exact hne q2), q3⟩
    · refine ⟨[y], fun z _ hz => ?_, by rw [u1]; exact hp⟩
      rw [u2, q1] at hz
      simp only [Value.pointer.injEq, Option.some.injEq, Addr.mk.injEq, and_true] at hz
      simp [hz]
  · refine ⟨[], fun z hz => ?_, fun v W' bq hb _ hx hp => ⟨hx.ext h.1 (fun z hz => by simp only [List.mem_singleton] at hz; rw [hz]; exact hb), fun hm => absurd (m2 hm) hk, fun _ => ⟨[], fun z hz _ => absurd (m2 hz) hk, by rw [u1]; exact hp⟩⟩⟩
    have := hM z (by simpa using hz); omega
def exFT (d : Bool) : Ex := .mk (if d then 1 else 2) ⟨#[]⟩ [] 0 0 []
def prFT (d : Bool) (k : Int) : Pr := .mk d k [.mk d (-1) []]
theorem prv_FT (s : List Attr) (l : List Cla) (f : List Int) (d : Bool) (op : Int) (hop : op = if d then 8 else 7) (args : List Ex) (k : Nat) (hk : args[k]? = some (exFT d)) : prv s l f (.mk op ⟨#[]⟩ [] 0 0 args) (prFT d k) = true := by
  unfold prv prFT
  rw [prvF, prvE]
  have h8 : decide (op = 8) = d := by cases d <;> simp [hop]
  rw [if_neg (by cases d <;> simp [hop]), if_pos (by cases d <;> simp [hop]), if_pos h8.symm]
  simp only [Int.toNat_natCast, List.all_cons, List.all_nil, Bool.and_true, List.length_cons, List.length_nil, prvAt_get, hk, Option.map_some, Option.getD_some]
  cases d <;> simp [exFT, prvE, factV, Pr.value]
def PdS (s : List Attr) (W : World) (v : Value) : Prop := ∃ (x : Ex) (xv : ExV), v = xv.val ∧ MadeE s [] 3 x ∧ IsEx W x xv.val
theorem pdS_mono (s : List Attr) : ∀ W W' v, Sub W W' → PdS s W v → PdS s W' v := fun _ _ _ hs ⟨x, xv, h1, h2, h3⟩ => ⟨x, xv, h1, h2, h3.mono hs⟩
def exZ : Obj := .cells #[.int .i64 0, .string ⟨#[]⟩, .slice none 0 0, .int .i64 0, .int .i64 0, .slice none 0 0] 26 (0, 0)
theorem deck_exZ {w0 W : World} {bd : Nat} (h : DeckAt w0 W bd) : W.heap[bd]? ≠ some exZ := by
  obtain ⟨la, ln, lc, k, hb, _⟩ := h
  rw [hb]; unfold exZ; simp
theorem short_verify {s : List Attr} {l : List Cla} {D S X : Nat} {e : Ex} (ht : Term s l D S X e) (hD : D ≤ 16) (hS : S ≤ 300) (hX : X ≤ 2000) {W : World} {x : Ex} {f : List Int} {v : WorldV} (hw : IsWorld W s l x f v) (ho : HasOps W) {ev : Value} (he : IsEx W e ev) {p : Pr} {pv : PrV} (hp : IsPr W p pv) (ht : prv s l f e p = true) :
    Calls Tryz.prog 18 #[.agg #[.slice v.sa v.sn v.sc], .slice v.la v.ln v.lc, ev, .slice v.fa v.fn v.fc, pv.val] W (GivesE (.bool true) W) := by
  have ho11 := Term.ok (f := f) ‹Term s l D S X e› hD hS hX hw.cls hw.facts
  have hsz := ho11.size
  have := verified_calls s l e f p pv _ _ _ _ v.lc _ _ v.fc W (hw.in11 ho he (tree_few ho11.tree) (tree_fits ho11.tree) (slim_of_size _ (by omega)) hw.ints (by have := hw.fnl; omega)) hp
  unfold verB at this
  rw [ho11.err, if_pos rfl, ht] at this
  exact this
def short2R (w2 : World) (v : WorldV) (oa : Option Addr) (on oc b5 : Nat) : Nat → Value → World → Prop
  | 0, u, _ => u = .slice oa on oc
  | 1, u, W => ∃ (bq : Nat), u = .pointer (some ⟨bq, 0, none⟩) ∧ DeckAt w2 W bq
  | 2, u, _ => u = .pointer (some ⟨b5, 0, none⟩)
  | 3, u, _ => u = .agg #[.slice v.sa v.sn v.sc]
  | 4, u, _ => u = u ∧ True
  | _, u, _ => u = u ∧ True
def ShoL (b5 b7 bl : Nat) (Z5 Z7 Zl : Obj) (w4 : World) (i : Value) (wr : World) : Prop := ∃ k : Nat, i = .int .i64 k ∧ k ≤ 2 ∧ wr.heap[b5]? = some Z5 ∧ wr.heap[b7]? = some Z7 ∧ wr.heap[bl]? = some Zl ∧ Ext w4 wr
set_option maxRecDepth 100000 in
set_option maxHeartbeats 32000000 in
theorem short_calls (da : Option Addr) (dn dc : Nat) (oa : Option Addr) (on oc : Nat) (w : World) (h1 : IntsAt w da dn) (hd1 : dn ≤ 1000000000000000) (h2 : IntsAt w oa on) (hd2 : on ≤ 1000000000000000) (ho : HasOps w) :
    Calls Tryz.prog 6 #[.slice da dn dc, .slice oa on oc] w (GivesE (.bool true) w) := by
  have HO := Lib.hid ho
  have HI2 := Lib.hid h2
  have HMA := Lib.hid (made11_calls da dn dc w h1 hd1)
  clear ho h1 h2
  go_enter Tryz.func6, Tryz.ntmps6
  go_wp2_with fail
  refine HMA.out.mono ?_
  rintro e w1 ⟨s, l, x, f, v, bd, rfl, hiw, -, hx1⟩
  have HIW := Lib.hid (hiw.mono (mask_sub _ _))
  have HX1 := Lib.hid hx1
  clear hiw hx1 HMA
  unfold WorldV.val
  go_upto_region 2 with fail
  obtain ⟨b5, hb5⟩ : ∃ b5 : Nat, b5 = w1.heap.size := ⟨_, rfl⟩
  obtain ⟨w2, hw2⟩ : ∃ w2, w2 = w1.alloc (.cells #[.slice v.sa v.sn v.sc, .slice v.la v.ln v.lc, .int .i64 v.x.op, .string v.x.name, .slice v.x.aw v.x.nw v.x.cw, .int .i64 v.x.lo, .int .i64 v.x.hi, .slice v.x.aa v.x.na v.x.ca, .slice v.fa v.fn v.fc] 34) := ⟨_, rfl⟩
  have hx2 : Ext w1 w2 := by rw [hw2]; exact (Ext.refl _).alloc _
  have HB2 := Lib.hid (show w2.heap[b5]? = some (.cells #[.slice v.sa v.sn v.sc, .slice v.la v.ln v.lc, .int .i64 v.x.op, .string v.x.name, .slice v.x.aw v.x.nw v.x.cw, .int .i64 v.x.lo, .int .i64 v.x.hi, .slice v.x.aa v.x.na v.x.ca, .slice v.fa v.fn v.fc] 34 (0, 0)) by rw [hw2, hb5]; exact alloc_new w1 _)
  rw [← hw2, ← hb5]
  clear hw2 hb5
  have HIW2 := Lib.hid (HIW.out.mono hx2.sub)
  have HX2 := Lib.hid (HX1.out.trans hx2)
  clear hx2 HIW HX1
  obtain ⟨c0, c1, c2, c3, c4, c5, c6, c7, c8, cf⟩ := blk9 HB2.out
  have HI22 := Lib.hid (show IntsAt w2 oa on from fun i hi => by obtain ⟨b, off, z, e, hc⟩ := HI2.out i hi; exact ⟨b, off, z, e, HX2.out.cell hc⟩)
  refine wp_region_growLG (n := 88) (m := 6) [] (GnBx w2 exZ (PdS s) [] 4 5) (GrEX 4) (GrP (short2R w2 v oa on oc b5)) (by kernel_rfl) (by kernel_rfl) (Nat.le_of_ble_eq_true rfl) ?gd gnbx_start ?_ ?_ ?_
  case gd =>
    intro i o j b hi ho hg
    have hi' : i = 0 ∨ i = 1 ∨ i = 2 ∨ i = 3 ∨ i = 4 ∨ i = 5 := by omega
    rcases hi' with rfl | rfl | rfl | rfl | rfl | rfl <;> (cases ho; first | (cases hg; done) | (cases hg; intro v W h; exact h))
  · intro i k v W W' hi hk hne hout h hE
    have hi' : i = 0 ∨ i = 1 ∨ i = 2 ∨ i = 3 ∨ i = 4 ∨ i = 5 := by omega
    clear hi hk
    by_cases hk : k = 4
    · subst hk
      rcases hi' with rfl | rfl | rfl | rfl | rfl | rfl
      · exact h
      · exact absurd hout (by decide +kernel)
      · exact h
      · exact h
      · exact absurd rfl hne
      · exact absurd hout (by decide +kernel)
    have hE : Ext W W' := (hE ‹_›)
    rcases hi' with rfl | rfl | rfl | rfl | rfl | rfl
    · exact h
    · obtain ⟨bq, e0, h⟩ := h
      exact ⟨bq, e0, h.ext hE⟩
    · exact h
    · exact h
    · obtain ⟨e0, h⟩ := h
      exact ⟨e0, trivial⟩
    · obtain ⟨e0, h⟩ := h
      exact ⟨e0, trivial⟩
  · intro q op hq ho L vs W hqL hcL hW hd ρ hρ
    have hq' : q = 0 ∨ q = 1 ∨ q = 2 ∨ q = 3 ∨ q = 4 ∨ q = 5 := by omega
    clear hq
    have o1 : ρ (.tmp 1) = .slice oa on oc := hρ.out 1 rfl
    have i0 := hρ.ins 0 17 (by omega) rfl (Nat.le_of_ble_eq_true rfl)
    have o5 : ρ (.tmp 5) = .pointer (some ⟨b5, 0, none⟩) := hρ.out 5 rfl
    have i2 := hρ.ins 2 19 (by omega) rfl (Nat.le_of_ble_eq_true rfl)
    have i1 := hρ.ins 1 18 (by omega) rfl (Nat.le_of_ble_eq_true rfl)
    have i3 := hρ.ins 3 20 (by omega) rfl (Nat.le_of_ble_eq_true rfl)
    have hc := hρ.const
    have hfn := hρ.func
    clear hρ
    have HG := Lib.hid hW
    have HW := Lib.hid (show Ext w2 W from hW.1)
    have HQL := Lib.hid hqL
    clear hW hqL hcL
    rcases hq' with rfl | rfl | rfl | rfl | rfl | rfl
    · cases ho
      clear hd
      unfold GivesOp
      go_simp
      exact ⟨fun _ => Ext.refl W, gnbx_step (pdS_mono s) (by decide) (by decide) HG.out (Ext.refl W), rfl⟩
    · cases ho
      have h0 : vs 0 = .slice oa on oc := hd ⟨0, .data⟩ (by simp) rfl
      rw [h0] at i0
      clear hd
      unfold GivesOp
      go_simp
      refine (new_callsB oa on oc w2 W HI22.out HW.out hd2).mono ?_
      rintro r5 w5 ⟨b6, rfl, hd5, hx5, hb6⟩
      exact ⟨_, rfl, fun _ => hx5, gnbx_step (pdS_mono s) (by decide) (by decide) HG.out hx5, b6, rfl, hd5⟩
    · cases ho
      clear hd
      unfold GivesOp
      go_simp
      exact ⟨fun _ => Ext.refl W, gnbx_step (pdS_mono s) (by decide) (by decide) HG.out (Ext.refl W), rfl⟩
    · cases ho
      have h2 : vs 2 = .pointer (some ⟨b5, 0, none⟩) := hd ⟨2, .data⟩ (by simp) rfl
      rw [h2] at i2
      clear hd
      have g0 := HW.out.cell c0
      unfold GivesOp
      go_simp
      exact ⟨fun _ => Ext.refl W, gnbx_step (pdS_mono s) (by decide) (by decide) HG.out (Ext.refl W), rfl⟩
    · cases ho
      obtain ⟨bq, h1, hs1⟩ : ∃ (bq : Nat), vs 1 = .pointer (some ⟨bq, 0, none⟩) ∧ DeckAt w2 W bq := hd ⟨1, .data⟩ (by simp) rfl
      have HS1 := Lib.hid hs1
      clear hs1
      rw [h1] at i1
      have h3 : vs 3 = .agg #[.slice v.sa v.sn v.sc] := hd ⟨3, .data⟩ (by simp) rfl
      rw [h3] at i3
      clear hd
      unfold GivesOp
      go_simp
      obtain ⟨Y, hY1, hY2⟩ := gnbx_callD (by decide) (by simp) HG.out
      refine (dexpr_calls s [] (schemas_ok s HIW2.out.mem).1 (schemas_ok s HIW2.out.mem).2.1 (schemas_ok s HIW2.out.mem).2.2 (by simp) 2 (by omega) HS1.out v.sa v.sn v.sc none 0 0 (Y ++ []) (HIW2.out.sch.mono (sub_freshW HW.out (deck_lowW HS1.out))) (isStrs_nil _) hY1).mono ?_
      rintro r5 w5 ⟨x5, xv5, rfl, hm5, hi5, hd5, hc5⟩
      exact ⟨_, rfl, fun h => absurd rfl h, hY2 _ _ bq (deck_lowW HS1.out) (deck_exZ HS1.out) hc5 ⟨x5, xv5, rfl, hm5, hi5⟩, rfl, trivial⟩
    · cases ho
      clear hd
      unfold GivesOp
      go_simp
      exact ⟨fun _ => (Ext.refl W).alloc _, gnbx_alloc (pdS_mono s) (by decide) rfl HG.out, rfl, trivial⟩
  intro L vs W hLm hW hR
  rw [if_neg (by decide +kernel)]
  obtain ⟨b7, h5, q1, q2, q3⟩ := gnbx_end (pdS_mono s) hW (hLm 4 (by omega)) (hLm 5 (by omega))
  obtain ⟨y, yv, h4, hmy, hiy⟩ := q3
  have HBZ := Lib.hid (And.intro q1 q2)
  have HMY := Lib.hid hmy
  have HIY := Lib.hid hiy
  clear q1 q2 hmy hiy
  unfold ExV.val exV at h4
  refine wpOp_lastG rfl ?_
  change wpList _ _ _ [⟨none, .store _ (.tmp 7) (.tmp 21), _, _, _, none⟩] _ _
  simp only [acts, dstAt, List.range, List.range.loop, List.foldl_cons, List.foldl_nil, h4, h5]
  go_simp
  have hW2 : Ext w2 W := hW.1
  clear hR hW hLm h4 h5
  clear c0 c1 c2 c3 c4 c5 c6 c7 c8 cf
  obtain ⟨w4, hw4⟩ : ∃ w4, w4 = put6 W b7 yv := ⟨_, rfl⟩
  have hz7 : W.heap[b7]? = some exZ := HBZ.out.1
  have HB7 := Lib.hid (show w4.heap[b7]? = some (.cells #[.int .i64 yv.op, .string yv.name, .slice yv.aw yv.nw yv.cw, .int .i64 yv.lo, .int .i64 yv.hi, .slice yv.aa yv.na yv.ca] 26 (0, 0)) by rw [hw4]; exact put6_blk (y := ⟨0, ⟨#[]⟩, none, 0, 0, 0, 0, none, 0, 0⟩) hz7 yv)
  have hc4 : Chg [b7] W w4 := by rw [hw4]; exact put6_chg W b7 yv (by simp)
  have hx4 : Ext w2 w4 := hc4.ext hW2 (fun y hy => by simp only [List.mem_singleton] at hy; rw [hy]; exact HBZ.out.2)
  have HIY4 := Lib.hid (show IsEx w4 y yv.val from (HIY.out.mono (mask_chg hc4 (by simp))).mono (mask_sub _ _))
  have HIW4 := Lib.hid (HIW2.out.mono hx4.sub)
  have HB54 := Lib.hid (hx4.blk HB2.out)
  have HX4 := Lib.hid (HX2.out.trans hx4)
  have hz8 : W.heap[b7]? = some (.cells #[.int .i64 0, .string ⟨#[]⟩, .slice none 0 0, .int .i64 0, .int .i64 0, .slice none 0 0] 26 (0, 0)) := hz7
  obtain ⟨y0, y1, y2, y3, y4, y5, yf⟩ := blk6 hz8
  have hlty := blk_lt hz7
  go_upto_region 3 with fail
  unfold put6 at hw4
  rw [← hw4]
  clear hw4 y0 y1 y2 y3 y4 y5 yf hlty hz7 hz8 hc4 hx4 hW2 HBZ HIY HIW2 HB2 HX2 HI22
  have HBT := Lib.hid (bare_term HIW4.out.mem HIW4.out.cls HMY.out)
  go_upto_region 4 with fail
  obtain ⟨bl, hbl⟩ : ∃ bl : Nat, bl = w4.heap.size := ⟨_, rfl⟩
  obtain ⟨w5, hw5⟩ : ∃ w5, w5 = w4.alloc (.cells #[.int .i64 7, .int .i64 8] 3) := ⟨_, rfl⟩
  have hx5 : Ext w4 w5 := by rw [hw5]; exact (Ext.refl _).alloc _
  have HBL := Lib.hid (show w5.heap[bl]? = some (.cells #[.int .i64 7, .int .i64 8] 3 (0, 0)) by rw [hw5, hbl]; exact alloc_new w4 _)
  rw [← hw5, ← hbl]
  clear hw5 hbl
  have HIY5 := Lib.hid (HIY4.out.ext hx5)
  have HIW5 := Lib.hid (HIW4.out.mono hx5.sub)
  have HB55 := Lib.hid (hx5.blk HB54.out)
  have HB75 := Lib.hid (hx5.blk HB7.out)
  have HX5 := Lib.hid (HX4.out.trans hx5)
  clear hx5 HIY4 HIW4 HB54 HB7 HX4
  go_loopw [24] (ShoL b5 b7 bl (.cells #[.slice v.sa v.sn v.sc, .slice v.la v.ln v.lc, .int .i64 v.x.op, .string v.x.name, .slice v.x.aw v.x.nw v.x.cw, .int .i64 v.x.lo, .int .i64 v.x.hi, .slice v.x.aa v.x.na v.x.ca, .slice v.fa v.fn v.fc] 34 (0, 0)) (.cells #[.int .i64 yv.op, .string yv.name, .slice yv.aw yv.nw yv.cw, .int .i64 yv.lo, .int .i64 yv.hi, .slice yv.aa yv.na yv.ca] 26 (0, 0)) (.cells #[.int .i64 7, .int .i64 8] 3 (0, 0)) w5) (fun i _ => 2 - (intOf i).toNat)
  case atStart => exact ⟨0, rfl, by omega, HB55.out, HB75.out, HBL.out, Ext.refl _⟩
  case round =>
    obtain ⟨k, rfl, hk, hb5, hb7, hbl, hxr⟩ := hrel
    have HR5 := Lib.hid hb5
    have HR7 := Lib.hid hb7
    have HRL := Lib.hid hbl
    have HXR := Lib.hid hxr
    obtain ⟨c0, c1, c2, c3, c4, c5, c6, c7, c8, cf⟩ := blk9 hb5
    obtain ⟨y0, y1, y2, y3, y4, y5, yf⟩ := blk6 hb7
    obtain ⟨i0, i1, -⟩ := blk2 hbl
    have hlt5 := blk_lt hb5
    have hlt7 := blk_lt hb7
    clear hb5 hb7 hbl hxr
    rcases (by omega : k = 0 ∨ k = 1 ∨ k = 2) with rfl | rfl | rfl
    · go_upto_region 10 with fail
      obtain ⟨n, hn⟩ : ∃ n : Nat, n = wr.heap.size := ⟨_, rfl⟩
      obtain ⟨wA, hwA⟩ : ∃ wA, wA = ((wr.alloc (.cells #[.int .i64 2, .string ⟨#[]⟩, .slice none 0 0, .int .i64 0, .int .i64 0, .slice none 0 0] 26)).alloc (.cells #[.bool false, .int .i64 (-1), .slice none 0 0] 40)).alloc (.cells #[.bool false, .int .i64 0, .slice (some ⟨wr.heap.size + 1, 0, none⟩) 1 1] 40) := ⟨_, rfl⟩
      have hxA : Ext wr wA := by rw [hwA]; exact (((Ext.refl _).alloc _).alloc _).alloc _
      have HFA := Lib.hid (show wA.heap[n]? = some (.cells #[.int .i64 2, .string ⟨#[]⟩, .slice none 0 0, .int .i64 0, .int .i64 0, .slice none 0 0] 26 (0, 0)) by rw [hwA, hn]; exact blk_alloc (blk_alloc (alloc_new wr _)))
      have HPB := Lib.hid (show wA.heap[n + 1]? = some (.cells #[.bool false, .int .i64 (-1), .slice none 0 0] 40 (0, 0)) by rw [hwA, hn]; exact blk_alloc (alloc_atR (by simp)))
      have HPA := Lib.hid (show wA.heap[n + 1 + 1]? = some (.cells #[.bool false, .int .i64 0, .slice (some ⟨n + 1, 0, none⟩) 1 1] 40 (0, 0)) by rw [hwA, hn]; exact alloc_atR (by simp))
      rw [← hwA, ← hn]
      have HNS := Lib.hid (show w5.heap.size ≤ n by rw [hn]; exact HXR.out.size)
      clear hwA hn c0 c1 c2 c3 c4 c5 c6 c7 c8 cf y0 y1 y2 y3 y4 y5 yf i0 i1 hlt5 hlt7
      have HXA := Lib.hid (HXR.out.trans hxA)
      have HA5 := Lib.hid (hxA.blk HR5.out)
      have HA7 := Lib.hid (hxA.blk HR7.out)
      have HAL := Lib.hid (hxA.blk HRL.out)
      clear hxA HR5 HR7 HRL HXR
      have hft : Term s l 1 1 1 (exFT false) := term_true s l false
      have ht2 : Term s l 4 15 15 (.mk 7 ⟨#[]⟩ [] 0 0 [exFT false, y]) := Term.two (Or.inl rfl) (hft.weak (by omega) (Nat.le_refl _) (Nat.le_refl _)) HBT.out.1
      have ht3 : Term s l 5 55 1015 (.mk 7 ⟨#[]⟩ [] 0 0 [exFT false, x, y]) := Term.three (Or.inl rfl) (hft.weak (by omega) (Nat.le_refl _) (Nat.le_refl _)) HIW5.out.term (HBT.out.1.weak (by omega) (Nat.le_refl _) (Nat.le_refl _))
      have ht4 : Term s l 4 15 15 (.mk 7 ⟨#[]⟩ [] 0 0 [y, exFT false]) := (Term.two (S := 13) (X := 13) (S' := 1) (X' := 1) (Or.inl rfl) HBT.out.1 (hft.weak (by omega) (Nat.le_refl _) (Nat.le_refl _))).weak (Nat.le_refl _) (by omega) (by omega)
      have HV1 := Lib.hid (show ∀ W, Ext wA W → Calls Tryz.prog 18 #[.agg #[.slice v.sa v.sn v.sc], .slice v.la v.ln v.lc, .agg #[.int .i64 7, .string ⟨#[]⟩, .slice none 0 0, .int .i64 0, .int .i64 0, .slice (some ⟨W.heap.size, 0, none⟩) 2 2], .slice v.fa v.fn v.fc, .agg #[.bool false, .int .i64 0, .slice (some ⟨n + 1, 0, none⟩) 1 1]] (W.alloc (.cells #[.int .i64 2, .string ⟨#[]⟩, .slice none 0 0, .int .i64 0, .int .i64 0, .slice none 0 0, .int .i64 yv.op, .string yv.name, .slice yv.aw yv.nw yv.cw, .int .i64 yv.lo, .int .i64 yv.hi, .slice yv.aa yv.na yv.ca] 26)) (GivesE (.bool true) (W.alloc (.cells #[.int .i64 2, .string ⟨#[]⟩, .slice none 0 0, .int .i64 0, .int .i64 0, .slice none 0 0, .int .i64 yv.op, .string yv.name, .slice yv.aw yv.nw yv.cw, .int .i64 yv.lo, .int .i64 yv.hi, .slice yv.aa yv.na yv.ca] 26))) from fun W hW => by
        have hx := (HXA.out.trans hW).alloc (.cells #[.int .i64 2, .string ⟨#[]⟩, .slice none 0 0, .int .i64 0, .int .i64 0, .slice none 0 0, .int .i64 yv.op, .string yv.name, .slice yv.aw yv.nw yv.cw, .int .i64 yv.lo, .int .i64 yv.hi, .slice yv.aa yv.na yv.ca] 26)
        exact short_verify ht2 (by omega) (by omega) (by omega) (HIW5.out.mono hx.sub) (HO.out.ext (HX5.out.trans hx)) (isEx_two (va := ⟨2, ⟨#[]⟩, none, 0, 0, 0, 0, none, 0, 0⟩) (vb := yv) 7 (alloc_new W _) (isEx_plain _ 2 0 0 _) (HIY5.out.ext hx)) (p := prFT false 0) (pv := ⟨false, 0, some ⟨n + 1, 0, none⟩, 1, 1⟩) ((isPr_one (M := []) (v := ⟨false, -1, none, 0, 0⟩) ((hW.alloc _).blk HPB.out) (by simp) (isPr_none _ false (-1)) false 0).mono (mask_sub _ _)) (prv_FT s l f false 7 rfl _ 0 rfl))
      have HV2 := Lib.hid (show ∀ W, Ext wA W → Calls Tryz.prog 18 #[.agg #[.slice v.sa v.sn v.sc], .slice v.la v.ln v.lc, .agg #[.int .i64 7, .string ⟨#[]⟩, .slice none 0 0, .int .i64 0, .int .i64 0, .slice (some ⟨W.heap.size, 0, none⟩) 3 3], .slice v.fa v.fn v.fc, .agg #[.bool false, .int .i64 0, .slice (some ⟨n + 1, 0, none⟩) 1 1]] (W.alloc (.cells #[.int .i64 2, .string ⟨#[]⟩, .slice none 0 0, .int .i64 0, .int .i64 0, .slice none 0 0, .int .i64 v.x.op, .string v.x.name, .slice v.x.aw v.x.nw v.x.cw, .int .i64 v.x.lo, .int .i64 v.x.hi, .slice v.x.aa v.x.na v.x.ca, .int .i64 yv.op, .string yv.name, .slice yv.aw yv.nw yv.cw, .int .i64 yv.lo, .int .i64 yv.hi, .slice yv.aa yv.na yv.ca] 26)) (GivesE (.bool true) (W.alloc (.cells #[.int .i64 2, .string ⟨#[]⟩, .slice none 0 0, .int .i64 0, .int .i64 0, .slice none 0 0, .int .i64 v.x.op, .string v.x.name, .slice v.x.aw v.x.nw v.x.cw, .int .i64 v.x.lo, .int .i64 v.x.hi, .slice v.x.aa v.x.na v.x.ca, .int .i64 yv.op, .string yv.name, .slice yv.aw yv.nw yv.cw, .int .i64 yv.lo, .int .i64 yv.hi, .slice yv.aa yv.na yv.ca] 26))) from fun W hW => by
        have hx := (HXA.out.trans hW).alloc (.cells #[.int .i64 2, .string ⟨#[]⟩, .slice none 0 0, .int .i64 0, .int .i64 0, .slice none 0 0, .int .i64 v.x.op, .string v.x.name, .slice v.x.aw v.x.nw v.x.cw, .int .i64 v.x.lo, .int .i64 v.x.hi, .slice v.x.aa v.x.na v.x.ca, .int .i64 yv.op, .string yv.name, .slice yv.aw yv.nw yv.cw, .int .i64 yv.lo, .int .i64 yv.hi, .slice yv.aa yv.na yv.ca] 26)
        exact short_verify ht3 (by omega) (by omega) (by omega) (HIW5.out.mono hx.sub) (HO.out.ext (HX5.out.trans hx)) (isEx_three (va := ⟨2, ⟨#[]⟩, none, 0, 0, 0, 0, none, 0, 0⟩) (vb := v.x) (vc := yv) 7 (alloc_new W _) (isEx_plain _ 2 0 0 _) (HIW5.out.ex.ext hx) (HIY5.out.ext hx)) (p := prFT false 0) (pv := ⟨false, 0, some ⟨n + 1, 0, none⟩, 1, 1⟩) ((isPr_one (M := []) (v := ⟨false, -1, none, 0, 0⟩) ((hW.alloc _).blk HPB.out) (by simp) (isPr_none _ false (-1)) false 0).mono (mask_sub _ _)) (prv_FT s l f false 7 rfl _ 0 rfl))
      have HV3 := Lib.hid (show ∀ W, Ext w5 W → W.heap[n + 1]? = some (.cells #[.bool false, .int .i64 (-1), .slice none 0 0] 40 (0, 0)) → Calls Tryz.prog 18 #[.agg #[.slice v.sa v.sn v.sc], .slice v.la v.ln v.lc, .agg #[.int .i64 7, .string ⟨#[]⟩, .slice none 0 0, .int .i64 0, .int .i64 0, .slice (some ⟨W.heap.size, 0, none⟩) 2 2], .slice v.fa v.fn v.fc, .agg #[.bool false, .int .i64 1, .slice (some ⟨n + 1, 0, none⟩) 1 1]] (W.alloc (.cells #[.int .i64 yv.op, .string yv.name, .slice yv.aw yv.nw yv.cw, .int .i64 yv.lo, .int .i64 yv.hi, .slice yv.aa yv.na yv.ca, .int .i64 2, .string ⟨#[]⟩, .slice none 0 0, .int .i64 0, .int .i64 0, .slice none 0 0] 26)) (GivesE (.bool true) (W.alloc (.cells #[.int .i64 yv.op, .string yv.name, .slice yv.aw yv.nw yv.cw, .int .i64 yv.lo, .int .i64 yv.hi, .slice yv.aa yv.na yv.ca, .int .i64 2, .string ⟨#[]⟩, .slice none 0 0, .int .i64 0, .int .i64 0, .slice none 0 0] 26))) from fun W hW hb => by
        have hx := hW.alloc (.cells #[.int .i64 yv.op, .string yv.name, .slice yv.aw yv.nw yv.cw, .int .i64 yv.lo, .int .i64 yv.hi, .slice yv.aa yv.na yv.ca, .int .i64 2, .string ⟨#[]⟩, .slice none 0 0, .int .i64 0, .int .i64 0, .slice none 0 0] 26)
        exact short_verify ht4 (by omega) (by omega) (by omega) (HIW5.out.mono hx.sub) (HO.out.ext (HX5.out.trans hx)) (isEx_two (va := yv) (vb := ⟨2, ⟨#[]⟩, none, 0, 0, 0, 0, none, 0, 0⟩) 7 (alloc_new W _) (HIY5.out.ext hx) (isEx_plain _ 2 0 0 _)) (p := prFT false 1) (pv := ⟨false, 1, some ⟨n + 1, 0, none⟩, 1, 1⟩) ((isPr_one (M := []) (v := ⟨false, -1, none, 0, 0⟩) (((Ext.refl W).alloc _).blk hb) (by simp) (isPr_none _ false (-1)) false 1).mono (mask_sub _ _)) (prv_FT s l f false 7 rfl _ 1 rfl))
      clear hft ht2 ht3 ht4
      obtain ⟨c0, c1, c2, c3, c4, c5, c6, c7, c8, cf⟩ := blk9 HA5.out
      obtain ⟨y0, y1, y2, y3, y4, y5, yf⟩ := blk6 HA7.out
      obtain ⟨f0, f1, f2, f3, f4, f5, ff⟩ := blk6 HFA.out
      obtain ⟨p0, p1, p2, pf'⟩ := blk3 HPA.out
      have hl5 := blk_lt HA5.out
      have hl7 := blk_lt HA7.out
      have hlf := blk_lt HFA.out
      have hlp := blk_lt HPA.out
      go_wp2_with fail
      refine (HV1.out wA (Ext.refl _)).mono ?_
      rintro r wB ⟨rfl, hxB⟩
      have HXB := Lib.hid (((Ext.refl wA).alloc _).trans hxB)
      clear hxB c0 c1 c2 c3 c4 c5 c6 c7 c8 cf y0 y1 y2 y3 y4 y5 yf f0 f1 f2 f3 f4 f5 ff p0 p1 p2 pf' hl5 hl7 hlf hlp
      obtain ⟨c0, c1, c2, c3, c4, c5, c6, c7, c8, cf⟩ := blk9 (HXB.out.blk HA5.out)
      obtain ⟨y0, y1, y2, y3, y4, y5, yf⟩ := blk6 (HXB.out.blk HA7.out)
      obtain ⟨f0, f1, f2, f3, f4, f5, ff⟩ := blk6 (HXB.out.blk HFA.out)
      obtain ⟨p0, p1, p2, pf'⟩ := blk3 (HXB.out.blk HPA.out)
      have hl5 := blk_lt (HXB.out.blk HA5.out)
      have hl7 := blk_lt (HXB.out.blk HA7.out)
      have hlf := blk_lt (HXB.out.blk HFA.out)
      have hlp := blk_lt (HXB.out.blk HPA.out)
      go_wp2_with fail
      refine (HV2.out wB HXB.out).mono ?_
      rintro r wC ⟨rfl, hxC⟩
      have HXC := Lib.hid ((HXB.out.alloc _).trans hxC)
      clear hxC c0 c1 c2 c3 c4 c5 c6 c7 c8 cf y0 y1 y2 y3 y4 y5 yf f0 f1 f2 f3 f4 f5 ff p0 p1 p2 pf' hl5 hl7 hlf hlp
      have hpc := HXC.out.blk HPA.out
      obtain ⟨p0, p1, p2, pf'⟩ := blk3 hpc
      go_upto_region 13 with fail
      obtain ⟨wD, hwD⟩ : ∃ wD, wD = wC.setCell ⟨n + 1 + 1, 1, none⟩ (.int .i64 1) := ⟨_, rfl⟩
      have hcD : Chg [n + 1 + 1] wC wD := by rw [hwD]; exact put_chg _ _ _ _
      have hpd : wD.heap[n + 1 + 1]? = some (.cells #[.bool false, .int .i64 1, .slice (some ⟨n + 1, 0, none⟩) 1 1] 40 (0, 0)) := by rw [hwD]; have := put_blk (i := 1) hpc (.int .i64 1); simpa using this
      rw [← hwD]
      clear hwD hpc p0 p1 p2 pf'
      have HXD := Lib.hid (hcD.ext (HXA.out.trans HXC.out) (fun z hz => by simp only [List.mem_singleton] at hz; have := HNS.out; omega))
      have HBP := Lib.hid (hcD.blk (HXC.out.blk HPB.out) (by simp))
      have HD5 := Lib.hid (hcD.blk (HXC.out.blk HA5.out) (by have := blk_lt HB55.out; have := HNS.out; simp; omega))
      have HD7 := Lib.hid (hcD.blk (HXC.out.blk HA7.out) (by have := blk_lt HB75.out; have := HNS.out; simp; omega))
      have HDL := Lib.hid (hcD.blk (HXC.out.blk HAL.out) (by have := blk_lt HBL.out; have := HNS.out; simp; omega))
      have HDF := Lib.hid (hcD.blk (HXC.out.blk HFA.out) (by simp; omega))
      have HDP := Lib.hid hpd
      clear hcD hpd
      obtain ⟨c0, c1, c2, c3, c4, c5, c6, c7, c8, cf⟩ := blk9 HD5.out
      obtain ⟨y0, y1, y2, y3, y4, y5, yf⟩ := blk6 HD7.out
      obtain ⟨f0, f1, f2, f3, f4, f5, ff⟩ := blk6 HDF.out
      obtain ⟨p0, p1, p2, pf'⟩ := blk3 HDP.out
      have hl5 := blk_lt HD5.out
      have hlp := blk_lt HDP.out
      go_wp2_with fail
      refine (HV3.out wD HXD.out HBP.out).mono ?_
      rintro r wE ⟨rfl, hxE⟩
      have HXE := Lib.hid (((Ext.refl wD).alloc _).trans hxE)
      clear hxE c0 c1 c2 c3 c4 c5 c6 c7 c8 cf y0 y1 y2 y3 y4 y5 yf f0 f1 f2 f3 f4 f5 ff p0 p1 p2 pf' hl5 hlp
      go_wp2_with fail
      go_roundw
      case rel => exact ⟨1, by go_num, by omega, HXE.out.blk HD5.out, HXE.out.blk HD7.out, HXE.out.blk HDL.out, HXD.out.trans HXE.out⟩
      case measure => simp [intOf]
    · go_upto_region 10 with fail
      obtain ⟨n, hn⟩ : ∃ n : Nat, n = wr.heap.size := ⟨_, rfl⟩
      obtain ⟨wA, hwA⟩ : ∃ wA, wA = ((wr.alloc (.cells #[.int .i64 1, .string ⟨#[]⟩, .slice none 0 0, .int .i64 0, .int .i64 0, .slice none 0 0] 26)).alloc (.cells #[.bool true, .int .i64 (-1), .slice none 0 0] 40)).alloc (.cells #[.bool true, .int .i64 0, .slice (some ⟨wr.heap.size + 1, 0, none⟩) 1 1] 40) := ⟨_, rfl⟩
      have hxA : Ext wr wA := by rw [hwA]; exact (((Ext.refl _).alloc _).alloc _).alloc _
      have HFA := Lib.hid (show wA.heap[n]? = some (.cells #[.int .i64 1, .string ⟨#[]⟩, .slice none 0 0, .int .i64 0, .int .i64 0, .slice none 0 0] 26 (0, 0)) by rw [hwA, hn]; exact blk_alloc (blk_alloc (alloc_new wr _)))
      have HPB := Lib.hid (show wA.heap[n + 1]? = some (.cells #[.bool true, .int .i64 (-1), .slice none 0 0] 40 (0, 0)) by rw [hwA, hn]; exact blk_alloc (alloc_atR (by simp)))
      have HPA := Lib.hid (show wA.heap[n + 1 + 1]? = some (.cells #[.bool true, .int .i64 0, .slice (some ⟨n + 1, 0, none⟩) 1 1] 40 (0, 0)) by rw [hwA, hn]; exact alloc_atR (by simp))
      rw [← hwA, ← hn]
      have HNS := Lib.hid (show w5.heap.size ≤ n by rw [hn]; exact HXR.out.size)
      clear hwA hn c0 c1 c2 c3 c4 c5 c6 c7 c8 cf y0 y1 y2 y3 y4 y5 yf i0 i1 hlt5 hlt7
      have HXA := Lib.hid (HXR.out.trans hxA)
      have HA5 := Lib.hid (hxA.blk HR5.out)
      have HA7 := Lib.hid (hxA.blk HR7.out)
      have HAL := Lib.hid (hxA.blk HRL.out)
      clear hxA HR5 HR7 HRL HXR
      have hft : Term s l 1 1 1 (exFT true) := term_true s l true
      have ht2 : Term s l 4 15 15 (.mk 8 ⟨#[]⟩ [] 0 0 [exFT true, y]) := Term.two (Or.inr rfl) (hft.weak (by omega) (Nat.le_refl _) (Nat.le_refl _)) HBT.out.1
      have ht3 : Term s l 5 55 1015 (.mk 8 ⟨#[]⟩ [] 0 0 [exFT true, x, y]) := Term.three (Or.inr rfl) (hft.weak (by omega) (Nat.le_refl _) (Nat.le_refl _)) HIW5.out.term (HBT.out.1.weak (by omega) (Nat.le_refl _) (Nat.le_refl _))
      have ht4 : Term s l 4 15 15 (.mk 8 ⟨#[]⟩ [] 0 0 [y, exFT true]) := (Term.two (S := 13) (X := 13) (S' := 1) (X' := 1) (Or.inr rfl) HBT.out.1 (hft.weak (by omega) (Nat.le_refl _) (Nat.le_refl _))).weak (Nat.le_refl _) (by omega) (by omega)
      have HV1 := Lib.hid (show ∀ W, Ext wA W → Calls Tryz.prog 18 #[.agg #[.slice v.sa v.sn v.sc], .slice v.la v.ln v.lc, .agg #[.int .i64 8, .string ⟨#[]⟩, .slice none 0 0, .int .i64 0, .int .i64 0, .slice (some ⟨W.heap.size, 0, none⟩) 2 2], .slice v.fa v.fn v.fc, .agg #[.bool true, .int .i64 0, .slice (some ⟨n + 1, 0, none⟩) 1 1]] (W.alloc (.cells #[.int .i64 1, .string ⟨#[]⟩, .slice none 0 0, .int .i64 0, .int .i64 0, .slice none 0 0, .int .i64 yv.op, .string yv.name, .slice yv.aw yv.nw yv.cw, .int .i64 yv.lo, .int .i64 yv.hi, .slice yv.aa yv.na yv.ca] 26)) (GivesE (.bool true) (W.alloc (.cells #[.int .i64 1, .string ⟨#[]⟩, .slice none 0 0, .int .i64 0, .int .i64 0, .slice none 0 0, .int .i64 yv.op, .string yv.name, .slice yv.aw yv.nw yv.cw, .int .i64 yv.lo, .int .i64 yv.hi, .slice yv.aa yv.na yv.ca] 26))) from fun W hW => by
        have hx := (HXA.out.trans hW).alloc (.cells #[.int .i64 1, .string ⟨#[]⟩, .slice none 0 0, .int .i64 0, .int .i64 0, .slice none 0 0, .int .i64 yv.op, .string yv.name, .slice yv.aw yv.nw yv.cw, .int .i64 yv.lo, .int .i64 yv.hi, .slice yv.aa yv.na yv.ca] 26)
        exact short_verify ht2 (by omega) (by omega) (by omega) (HIW5.out.mono hx.sub) (HO.out.ext (HX5.out.trans hx)) (isEx_two (va := ⟨1, ⟨#[]⟩, none, 0, 0, 0, 0, none, 0, 0⟩) (vb := yv) 8 (alloc_new W _) (isEx_plain _ 1 0 0 _) (HIY5.out.ext hx)) (p := prFT true 0) (pv := ⟨true, 0, some ⟨n + 1, 0, none⟩, 1, 1⟩) ((isPr_one (M := []) (v := ⟨true, -1, none, 0, 0⟩) ((hW.alloc _).blk HPB.out) (by simp) (isPr_none _ true (-1)) true 0).mono (mask_sub _ _)) (prv_FT s l f true 8 rfl _ 0 rfl))
      have HV2 := Lib.hid (show ∀ W, Ext wA W → Calls Tryz.prog 18 #[.agg #[.slice v.sa v.sn v.sc], .slice v.la v.ln v.lc, .agg #[.int .i64 8, .string ⟨#[]⟩, .slice none 0 0, .int .i64 0, .int .i64 0, .slice (some ⟨W.heap.size, 0, none⟩) 3 3], .slice v.fa v.fn v.fc, .agg #[.bool true, .int .i64 0, .slice (some ⟨n + 1, 0, none⟩) 1 1]] (W.alloc (.cells #[.int .i64 1, .string ⟨#[]⟩, .slice none 0 0, .int .i64 0, .int .i64 0, .slice none 0 0, .int .i64 v.x.op, .string v.x.name, .slice v.x.aw v.x.nw v.x.cw, .int .i64 v.x.lo, .int .i64 v.x.hi, .slice v.x.aa v.x.na v.x.ca, .int .i64 yv.op, .string yv.name, .slice yv.aw yv.nw yv.cw, .int .i64 yv.lo, .int .i64 yv.hi, .slice yv.aa yv.na yv.ca] 26)) (GivesE (.bool true) (W.alloc (.cells #[.int .i64 1, .string ⟨#[]⟩, .slice none 0 0, .int .i64 0, .int .i64 0, .slice none 0 0, .int .i64 v.x.op, .string v.x.name, .slice v.x.aw v.x.nw v.x.cw, .int .i64 v.x.lo, .int .i64 v.x.hi, .slice v.x.aa v.x.na v.x.ca, .int .i64 yv.op, .string yv.name, .slice yv.aw yv.nw yv.cw, .int .i64 yv.lo, .int .i64 yv.hi, .slice yv.aa yv.na yv.ca] 26))) from fun W hW => by
        have hx := (HXA.out.trans hW).alloc (.cells #[.int .i64 1, .string ⟨#[]⟩, .slice none 0 0, .int .i64 0, .int .i64 0, .slice none 0 0, .int .i64 v.x.op, .string v.x.name, .slice v.x.aw v.x.nw v.x.cw, .int .i64 v.x.lo, .int .i64 v.x.hi, .slice v.x.aa v.x.na v.x.ca, .int .i64 yv.op, .string yv.name, .slice yv.aw yv.nw yv.cw, .int .i64 yv.lo, .int .i64 yv.hi, .slice yv.aa yv.na yv.ca] 26)
        exact short_verify ht3 (by omega) (by omega) (by omega) (HIW5.out.mono hx.sub) (HO.out.ext (HX5.out.trans hx)) (isEx_three (va := ⟨1, ⟨#[]⟩, none, 0, 0, 0, 0, none, 0, 0⟩) (vb := v.x) (vc := yv) 8 (alloc_new W _) (isEx_plain _ 1 0 0 _) (HIW5.out.ex.ext hx) (HIY5.out.ext hx)) (p := prFT true 0) (pv := ⟨true, 0, some ⟨n + 1, 0, none⟩, 1, 1⟩) ((isPr_one (M := []) (v := ⟨true, -1, none, 0, 0⟩) ((hW.alloc _).blk HPB.out) (by simp) (isPr_none _ true (-1)) true 0).mono (mask_sub _ _)) (prv_FT s l f true 8 rfl _ 0 rfl))
      have HV3 := Lib.hid (show ∀ W, Ext w5 W → W.heap[n + 1]? = some (.cells #[.bool true, .int .i64 (-1), .slice none 0 0] 40 (0, 0)) → Calls Tryz.prog 18 #[.agg #[.slice v.sa v.sn v.sc], .slice v.la v.ln v.lc, .agg #[.int .i64 8, .string ⟨#[]⟩, .slice none 0 0, .int .i64 0, .int .i64 0, .slice (some ⟨W.heap.size, 0, none⟩) 2 2], .slice v.fa v.fn v.fc, .agg #[.bool true, .int .i64 1, .slice (some ⟨n + 1, 0, none⟩) 1 1]] (W.alloc (.cells #[.int .i64 yv.op, .string yv.name, .slice yv.aw yv.nw yv.cw, .int .i64 yv.lo, .int .i64 yv.hi, .slice yv.aa yv.na yv.ca, .int .i64 1, .string ⟨#[]⟩, .slice none 0 0, .int .i64 0, .int .i64 0, .slice none 0 0] 26)) (GivesE (.bool true) (W.alloc (.cells #[.int .i64 yv.op, .string yv.name, .slice yv.aw yv.nw yv.cw, .int .i64 yv.lo, .int .i64 yv.hi, .slice yv.aa yv.na yv.ca, .int .i64 1, .string ⟨#[]⟩, .slice none 0 0, .int .i64 0, .int .i64 0, .slice none 0 0] 26))) from fun W hW hb => by
        have hx := hW.alloc (.cells #[.int .i64 yv.op, .string yv.name, .slice yv.aw yv.nw yv.cw, .int .i64 yv.lo, .int .i64 yv.hi, .slice yv.aa yv.na yv.ca, .int .i64 1, .string ⟨#[]⟩, .slice none 0 0, .int .i64 0, .int .i64 0, .slice none 0 0] 26)
        exact short_verify ht4 (by omega) (by omega) (by omega) (HIW5.out.mono hx.sub) (HO.out.ext (HX5.out.trans hx)) (isEx_two (va := yv) (vb := ⟨1, ⟨#[]⟩, none, 0, 0, 0, 0, none, 0, 0⟩) 8 (alloc_new W _) (HIY5.out.ext hx) (isEx_plain _ 1 0 0 _)) (p := prFT true 1) (pv := ⟨true, 1, some ⟨n + 1, 0, none⟩, 1, 1⟩) ((isPr_one (M := []) (v := ⟨true, -1, none, 0, 0⟩) (((Ext.refl W).alloc _).blk hb) (by simp) (isPr_none _ true (-1)) true 1).mono (mask_sub _ _)) (prv_FT s l f true 8 rfl _ 1 rfl))
      clear hft ht2 ht3 ht4
      obtain ⟨c0, c1, c2, c3, c4, c5, c6, c7, c8, cf⟩ := blk9 HA5.out
      obtain ⟨y0, y1, y2, y3, y4, y5, yf⟩ := blk6 HA7.out
      obtain ⟨f0, f1, f2, f3, f4, f5, ff⟩ := blk6 HFA.out
      obtain ⟨p0, p1, p2, pf'⟩ := blk3 HPA.out
      have hl5 := blk_lt HA5.out
      have hl7 := blk_lt HA7.out
      have hlf := blk_lt HFA.out
      have hlp := blk_lt HPA.out
      go_wp2_with fail
      refine (HV1.out wA (Ext.refl _)).mono ?_
      rintro r wB ⟨rfl, hxB⟩
      have HXB := Lib.hid (((Ext.refl wA).alloc _).trans hxB)
      clear hxB c0 c1 c2 c3 c4 c5 c6 c7 c8 cf y0 y1 y2 y3 y4 y5 yf f0 f1 f2 f3 f4 f5 ff p0 p1 p2 pf' hl5 hl7 hlf hlp
      obtain ⟨c0, c1, c2, c3, c4, c5, c6, c7, c8, cf⟩ := blk9 (HXB.out.blk HA5.out)
      obtain ⟨y0, y1, y2, y3, y4, y5, yf⟩ := blk6 (HXB.out.blk HA7.out)
      obtain ⟨f0, f1, f2, f3, f4, f5, ff⟩ := blk6 (HXB.out.blk HFA.out)
      obtain ⟨p0, p1, p2, pf'⟩ := blk3 (HXB.out.blk HPA.out)
      have hl5 := blk_lt (HXB.out.blk HA5.out)
      have hl7 := blk_lt (HXB.out.blk HA7.out)
      have hlf := blk_lt (HXB.out.blk HFA.out)
      have hlp := blk_lt (HXB.out.blk HPA.out)
      go_wp2_with fail
      refine (HV2.out wB HXB.out).mono ?_
      rintro r wC ⟨rfl, hxC⟩
      have HXC := Lib.hid ((HXB.out.alloc _).trans hxC)
      clear hxC c0 c1 c2 c3 c4 c5 c6 c7 c8 cf y0 y1 y2 y3 y4 y5 yf f0 f1 f2 f3 f4 f5 ff p0 p1 p2 pf' hl5 hl7 hlf hlp
      have hpc := HXC.out.blk HPA.out
      obtain ⟨p0, p1, p2, pf'⟩ := blk3 hpc
      go_upto_region 13 with fail
      obtain ⟨wD, hwD⟩ : ∃ wD, wD = wC.setCell ⟨n + 1 + 1, 1, none⟩ (.int .i64 1) := ⟨_, rfl⟩
      have hcD : Chg [n + 1 + 1] wC wD := by rw [hwD]; exact put_chg _ _ _ _
      have hpd : wD.heap[n + 1 + 1]? = some (.cells #[.bool true, .int .i64 1, .slice (some ⟨n + 1, 0, none⟩) 1 1] 40 (0, 0)) := by rw [hwD]; have := put_blk (i := 1) hpc (.int .i64 1); simpa using this
      rw [← hwD]
      clear hwD hpc p0 p1 p2 pf'
      have HXD := Lib.hid (hcD.ext (HXA.out.trans HXC.out) (fun z hz => by simp only [List.mem_singleton] at hz; have := HNS.out; omega))
      have HBP := Lib.hid (hcD.blk (HXC.out.blk HPB.out) (by simp))
      have HD5 := Lib.hid (hcD.blk (HXC.out.blk HA5.out) (by have := blk_lt HB55.out; have := HNS.out; simp; omega))
      have HD7 := Lib.hid (hcD.blk (HXC.out.blk HA7.out) (by have := blk_lt HB75.out; have := HNS.out; simp; omega))
      have HDL := Lib.hid (hcD.blk (HXC.out.blk HAL.out) (by have := blk_lt HBL.out; have := HNS.out; simp; omega))
      have HDF := Lib.hid (hcD.blk (HXC.out.blk HFA.out) (by simp; omega))
      have HDP := Lib.hid hpd
      clear hcD hpd
      obtain ⟨c0, c1, c2, c3, c4, c5, c6, c7, c8, cf⟩ := blk9 HD5.out
      obtain ⟨y0, y1, y2, y3, y4, y5, yf⟩ := blk6 HD7.out
      obtain ⟨f0, f1, f2, f3, f4, f5, ff⟩ := blk6 HDF.out
      obtain ⟨p0, p1, p2, pf'⟩ := blk3 HDP.out
      have hl5 := blk_lt HD5.out
      have hlp := blk_lt HDP.out
      go_wp2_with fail
      refine (HV3.out wD HXD.out HBP.out).mono ?_
      rintro r wE ⟨rfl, hxE⟩
      have HXE := Lib.hid (((Ext.refl wD).alloc _).trans hxE)
      clear hxE c0 c1 c2 c3 c4 c5 c6 c7 c8 cf y0 y1 y2 y3 y4 y5 yf f0 f1 f2 f3 f4 f5 ff p0 p1 p2 pf' hl5 hlp
      go_wp2_with fail
      go_roundw
      case rel => exact ⟨2, by go_num, by omega, HXE.out.blk HD5.out, HXE.out.blk HD7.out, HXE.out.blk HDL.out, HXD.out.trans HXE.out⟩
      case measure => simp [intOf]
    · go_wp2_with fail
      refine (awake11_calls wr (HO.out.ext (HX5.out.trans HXR.out))).mono ?_
      rintro r wz ⟨rfl, hxz⟩
      have HXZ := Lib.hid ((HX5.out.trans HXR.out).trans hxz)
      clear hxz
      go_wp2_with fail
      go_ret
      exact ⟨rfl, HXZ.out⟩
end Go.Proofs.YtpkljcgihobaiaaGreatDoor
