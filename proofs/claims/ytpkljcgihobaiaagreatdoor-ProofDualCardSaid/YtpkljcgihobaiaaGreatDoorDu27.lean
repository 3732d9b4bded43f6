/-
  Texts of the claim, joined: Dual.
-/
import Derived.Test.YtpkljcgihobaiaaGreatDoorDu26
namespace Go.Proofs.YtpkljcgihobaiaaGreatDoor
open Go.RowKit

/-! The law ProofDual: the walk. -/
def GrEX (q k : Nat) (W W' : World) : Prop := k ≠ q → Ext W W'
/-- Eval of an expression that makes sense, over the world. -/
theorem dual_eval {s : List Attr} {l : List Cla} {D S X : Nat} {e : Ex} (ht : Term s l D S X e) (hD : D ≤ 16) (hS : S ≤ 300) (hX : X ≤ 2000) (hc : (clausesErr s l).2 = 0) {g : List Int} (hg : factsAll s g = true) {W : World} {x : Ex} {f : List Int} {v : WorldV} (hw : IsWorld W s l x f v) (ho : HasOps W) {ev : Value} (he : IsEx W e ev) {ga : Option Addr} {gn gc : Nat} (hi : IsIntF W g ga gn) (hn : gn ≤ 1000) :
    Calls Tryz.prog 25 #[.agg #[.slice v.sa v.sn v.sc], .slice v.la v.ln v.lc, ev, .slice ga gn gc] W (GivesE (.tuple #[.bool (val s l g e), .int .i64 0]) W) := by
  have ho11 := ht.ok (f := g) hD hS hX hc hg
  have hsz := ho11.size
  have := eval_calls s l e g _ _ _ _ v.lc _ _ gc W (hw.in11 ho he (tree_few ho11.tree) (tree_fits ho11.tree) (slim_of_size _ (by omega)) hi (by omega))
  unfold evalV evalB at this
  rw [ho11.err, if_pos rfl] at this
  exact this
--BEGIN DEF D6
def dual6R (w7 : World) (s : List Attr) (v : WorldV) (oa : Option Addr) (on oc b5 : Nat) : Nat → Value → World → Prop
  | 0, u, _ => u = .slice oa on oc
  | 1, u, W => ∃ (bq : Nat), u = .pointer (some ⟨bq, 0, none⟩) ∧ DeckAt w7 W bq
  | 2, u, _ => u = .pointer (some ⟨b5, 0, none⟩)
  | 3, u, _ => u = .agg #[.slice v.sa v.sn v.sc]
  | 4, u, W => ∃ (g : List Int) (ga : Option Addr) (gc : Nat), u = .slice ga g.length gc ∧ (factsAll s g = true ∧ IsIntF W g ga g.length)
  | _, u, W => ∃ (g : List Int) (ga : Option Addr) (gc : Nat), u = .slice ga g.length gc ∧ (factsAll s g = true ∧ IsIntF W g ga g.length)
--END DEF D6
set_option maxRecDepth 100000 in
set_option maxHeartbeats 16000000 in
theorem dual_calls (da : Option Addr) (dn dc : Nat) (oa : Option Addr) (on oc : Nat) (w : World) (h1 : IntsAt w da dn) (h2 : IntsAt w oa on) (hd1 : dn ≤ 1000000000000000) (hd2 : on ≤ 1000000000000000) (ho : HasOps w) :
    Calls Tryz.prog 8 #[.slice da dn dc, .slice oa on oc] w (GivesE (.bool true) w) := by
  have HO := Lib.hid ho
  have HI2 := Lib.hid h2
  have HMA := Lib.hid (made11_calls da dn dc w h1 hd1)
  clear ho h1 h2
  go_enter Tryz.func8, Tryz.ntmps8
  go_wp2_with fail
  refine HMA.out.mono ?_
  rintro e w1 ⟨s, l, x, f, v, bd, rfl, hiw, hdk, hx1⟩
  have HIW := Lib.hid hiw
  have HDK := Lib.hid hdk
  have HX1 := Lib.hid hx1
  have hbl := hdk.lt
  clear hiw hdk hx1 HMA
  unfold WorldV.val
  go_upto_region 2 with fail
  obtain ⟨b5, hb5⟩ : ∃ b5, b5 = w1.heap.size := ⟨_, rfl⟩
  obtain ⟨w2, hw2⟩ : ∃ w2, w2 = w1.alloc (.cells #[.slice v.sa v.sn v.sc, .slice v.la v.ln v.lc, .int .i64 v.x.op, .string v.x.name, .slice v.x.aw v.x.nw v.x.cw, .int .i64 v.x.lo, .int .i64 v.x.hi, .slice v.x.aa v.x.na v.x.ca, .slice v.fa v.fn v.fc] 34) := ⟨_, rfl⟩
  have hx2 : Ext w1 w2 := by rw [hw2]; exact (Ext.refl _).alloc _
  have HB2 := Lib.hid (show w2.heap[b5]? = some (.cells #[.slice v.sa v.sn v.sc, .slice v.la v.ln v.lc, .int .i64 v.x.op, .string v.x.name, .slice v.x.aw v.x.nw v.x.cw, .int .i64 v.x.lo, .int .i64 v.x.hi, .slice v.x.aa v.x.na v.x.ca, .slice v.fa v.fn v.fc] 34 (0, 0)) by rw [hw2, hb5]; exact alloc_new w1 _)
  have HLT := Lib.hid (show bd < b5 by omega)
  rw [← hw2, ← hb5]
  clear hw2 hb5 hbl
  have HIW2 := Lib.hid (HIW.out.mono (mask_ext _ hx2))
  have HDK2 := Lib.hid (HDK.out.ext hx2)
  have HX2 := Lib.hid (HX1.out.trans hx2)
  clear hx2 HIW HDK HX1
  obtain ⟨c0, c1, c2, c3, c4, c5, c6, c7, c8, cf⟩ := blk9 HB2.out
  have HDX := Lib.hid (show Calls Tryz.prog 24 #[.pointer (some ⟨bd, 0, none⟩), .agg #[.slice v.sa v.sn v.sc], .slice none 0 0, .int .i64 3] w2 (MadeQ (MadeE s [] 3) w bd [] w2) from
    dexpr_calls s [] (schemas_ok s HIW2.out.mem).1 (schemas_ok s HIW2.out.mem).2.1 (schemas_ok s HIW2.out.mem).2.2 (by simp) 2 (by omega) HDK2.out v.sa v.sn v.sc none 0 0 [] HIW2.out.sch (isStrs_nil _) (by simp))
  go_wp2_with fail
  refine HDX.out.mono ?_
  rintro e w3 ⟨y, yv, rfl, hmy, hiy, hd3, hc3⟩
  have HBT := Lib.hid (bare_term HIW2.out.mem HIW2.out.cls hmy)
  have HIY3 := Lib.hid (show IsEx w3 y yv.val from hiy.mono (mask_sub _ _))
  have HIW3 := Lib.hid ((HIW2.out.mono (mask_step hc3 (by simp))).mono (mask_sub _ _))
  have HB3 := Lib.hid (hc3.blk HB2.out (by have := HLT.out; simp; omega))
  have HX3 := Lib.hid (show Ext w w3 by obtain ⟨_, _, _, _, _, _, _, _, hxw, _⟩ := hd3; exact hxw)
  clear hmy hiy hd3 hc3 c0 c1 c2 c3 c4 c5 c6 c7 c8 cf HDX HIW2 HDK2 HB2 HX2
  unfold ExV.val exV
  go_upto_region 3 with fail
  obtain ⟨b7, hb7⟩ : ∃ b7 : Nat, b7 = w3.heap.size := ⟨_, rfl⟩
  obtain ⟨w4, hw4⟩ : ∃ w4, w4 = w3.alloc (.cells #[.int .i64 yv.op, .string yv.name, .slice yv.aw yv.nw yv.cw, .int .i64 yv.lo, .int .i64 yv.hi, .slice yv.aa yv.na yv.ca] 26) := ⟨_, rfl⟩
  have hx4 : Ext w3 w4 := by rw [hw4]; exact (Ext.refl _).alloc _
  have HBY := Lib.hid (show w4.heap[b7]? = some (.cells #[.int .i64 yv.op, .string yv.name, .slice yv.aw yv.nw yv.cw, .int .i64 yv.lo, .int .i64 yv.hi, .slice yv.aa yv.na yv.ca] 26 (0, 0)) by rw [hw4, hb7]; exact alloc_new w3 _)
  rw [← hw4, ← hb7]
  clear hw4 hb7
  have HB4 := Lib.hid (hx4.blk HB3.out)
  have HIW4 := Lib.hid (HIW3.out.mono hx4.sub)
  have HIY4 := Lib.hid (HIY3.out.ext hx4)
  have HX4 := Lib.hid (HX3.out.trans hx4)
  clear hx4 HB3 HIW3 HIY3 HX3
  obtain ⟨c0, c1, c2, c3, c4, c5, c6, c7, c8, cf⟩ := blk9 HB4.out
  obtain ⟨y0, y1, y2, y3, y4, y5, yf⟩ := blk6 HBY.out
  go_upto_region 4 with fail
  -- not (x and y)
  obtain ⟨w5, hw5⟩ : ∃ w5, w5 = ((w4.alloc (.cells #[.int .i64 v.x.op, .string v.x.name, .slice v.x.aw v.x.nw v.x.cw, .int .i64 v.x.lo, .int .i64 v.x.hi, .slice v.x.aa v.x.na v.x.ca, .int .i64 yv.op, .string yv.name, .slice yv.aw yv.nw yv.cw, .int .i64 yv.lo, .int .i64 yv.hi, .slice yv.aa yv.na yv.ca] 26)).alloc (.cells #[.int .i64 7, .string ⟨#[]⟩, .slice none 0 0, .int .i64 0, .int .i64 0, .slice (some ⟨w4.heap.size, 0, none⟩) 2 2] 26)).alloc (.cells #[.int .i64 6, .string ⟨#[]⟩, .slice none 0 0, .int .i64 0, .int .i64 0, .slice (some ⟨w4.heap.size + 1, 0, none⟩) 1 1] 26) := ⟨_, rfl⟩
  obtain ⟨n4, hn4⟩ : ∃ n4 : Nat, n4 = w4.heap.size := ⟨_, rfl⟩
  have hx5 : Ext w4 w5 := by rw [hw5]; exact (((Ext.refl _).alloc _).alloc _).alloc _
  have hg1 : w5.heap[n4]? = some (.cells (v.x.cells ++ yv.cells).toArray 26 (0, 0)) := by rw [hw5, hn4]; exact blk_alloc (blk_alloc (alloc_new w4 _))
  have hg2 : w5.heap[n4 + 1]? = some (.cells (ExV.cells ⟨7, ⟨#[]⟩, none, 0, 0, 0, 0, some ⟨n4, 0, none⟩, 2, 2⟩).toArray 26 (0, 0)) := by rw [hw5, hn4]; exact blk_alloc (alloc_atR (by simp))
  have HG3 := Lib.hid (show w5.heap[n4 + 1 + 1]? = some (.cells #[.int .i64 6, .string ⟨#[]⟩, .slice none 0 0, .int .i64 0, .int .i64 0, .slice (some ⟨n4 + 1, 0, none⟩) 1 1] 26 (0, 0)) by rw [hw5, hn4]; exact alloc_atR (by simp))
  rw [← hw5, ← hn4]
  clear hw5 hn4
  have HIW5 := Lib.hid (HIW4.out.mono hx5.sub)
  have HIY5 := Lib.hid (HIY4.out.ext hx5)
  have HN5 := Lib.hid (show IsEx w5 (exNot (exAnd x y)) (exV 6 ⟨#[]⟩ none 0 0 0 0 (some ⟨n4 + 1, 0, none⟩) 1 1) from isEx_one 6 hg2 (isEx_two 7 hg1 HIW5.out.ex HIY5.out))
  have HB5 := Lib.hid (hx5.blk HB4.out)
  have HBY5 := Lib.hid (hx5.blk HBY.out)
  have HX5 := Lib.hid (HX4.out.trans hx5)
  clear hx5 hg1 hg2 HB4 HIW4 HIY4 HX4 HBY c0 c1 c2 c3 c4 c5 c6 c7 c8 cf y0 y1 y2 y3 y4 y5 yf
  obtain ⟨c0, c1, c2, c3, c4, c5, c6, c7, c8, cf⟩ := blk9 HB5.out
  obtain ⟨y0, y1, y2, y3, y4, y5, yf⟩ := blk6 HBY5.out
  have hlc := blk_lt HB5.out
  have hly := blk_lt HBY5.out
  go_upto_region 5 with fail
  -- not x or not y
  obtain ⟨w6, hw6⟩ : ∃ w6, w6 = (((w5.alloc (.cells #[.int .i64 v.x.op, .string v.x.name, .slice v.x.aw v.x.nw v.x.cw, .int .i64 v.x.lo, .int .i64 v.x.hi, .slice v.x.aa v.x.na v.x.ca] 26)).alloc (.cells #[.int .i64 yv.op, .string yv.name, .slice yv.aw yv.nw yv.cw, .int .i64 yv.lo, .int .i64 yv.hi, .slice yv.aa yv.na yv.ca] 26)).alloc (.cells #[.int .i64 6, .string ⟨#[]⟩, .slice none 0 0, .int .i64 0, .int .i64 0, .slice (some ⟨w5.heap.size, 0, none⟩) 1 1, .int .i64 6, .string ⟨#[]⟩, .slice none 0 0, .int .i64 0, .int .i64 0, .slice (some ⟨w5.heap.size + 1, 0, none⟩) 1 1] 26)).alloc (.cells #[.int .i64 8, .string ⟨#[]⟩, .slice none 0 0, .int .i64 0, .int .i64 0, .slice (some ⟨w5.heap.size + 1 + 1, 0, none⟩) 2 2] 26) := ⟨_, rfl⟩
  obtain ⟨n5, hn5⟩ : ∃ n5 : Nat, n5 = w5.heap.size := ⟨_, rfl⟩
  have hx6 : Ext w5 w6 := by rw [hw6]; exact ((((Ext.refl _).alloc _).alloc _).alloc _).alloc _
  have hg1 : w6.heap[n5]? = some (.cells v.x.cells.toArray 26 (0, 0)) := by rw [hw6, hn5]; exact blk_alloc (blk_alloc (blk_alloc (alloc_new w5 _)))
  have hg2 : w6.heap[n5 + 1]? = some (.cells yv.cells.toArray 26 (0, 0)) := by rw [hw6, hn5]; exact blk_alloc (blk_alloc (alloc_atR (by simp)))
  have hg3 : w6.heap[n5 + 1 + 1]? = some (.cells (ExV.cells ⟨6, ⟨#[]⟩, none, 0, 0, 0, 0, some ⟨n5, 0, none⟩, 1, 1⟩ ++ ExV.cells ⟨6, ⟨#[]⟩, none, 0, 0, 0, 0, some ⟨n5 + 1, 0, none⟩, 1, 1⟩).toArray 26 (0, 0)) := by rw [hw6, hn5]; exact blk_alloc (alloc_atR (by simp))
  have HG6 := Lib.hid (show w6.heap[n5 + 1 + 1 + 1]? = some (.cells #[.int .i64 8, .string ⟨#[]⟩, .slice none 0 0, .int .i64 0, .int .i64 0, .slice (some ⟨n5 + 1 + 1, 0, none⟩) 2 2] 26 (0, 0)) by rw [hw6, hn5]; exact alloc_atR (by simp))
  rw [← hw6, ← hn5]
  clear hw6 hn5
  have HIW6 := Lib.hid (HIW5.out.mono hx6.sub)
  have HIY6 := Lib.hid (HIY5.out.ext hx6)
  have HN6 := Lib.hid (HN5.out.ext hx6)
  have HR6 := Lib.hid (show IsEx w6 (exOr (exNot x) (exNot y)) (exV 8 ⟨#[]⟩ none 0 0 0 0 (some ⟨n5 + 1 + 1, 0, none⟩) 2 2) from isEx_two 8 hg3 (isEx_one 6 hg1 HIW6.out.ex) (isEx_one 6 hg2 HIY6.out))
  have HB6 := Lib.hid (hx6.blk HB5.out)
  have HG36 := Lib.hid (hx6.blk HG3.out)
  have HX6 := Lib.hid (HX5.out.trans hx6)
  clear hx6 hg1 hg2 hg3 HB5 HBY5 HIW5 HIY5 HX5 HN5 HG3 c0 c1 c2 c3 c4 c5 c6 c7 c8 cf y0 y1 y2 y3 y4 y5 yf hlc hly
  obtain ⟨m0, m1, m2, m3, m4, m5, mf⟩ := blk6 HG36.out
  go_upto_region 6 with fail
  obtain ⟨w7, hw7⟩ : ∃ w7, w7 = (w6.alloc (.cells #[.int .i64 6, .string ⟨#[]⟩, .slice none 0 0, .int .i64 0, .int .i64 0, .slice (some ⟨n4 + 1, 0, none⟩) 1 1] 26)).alloc (.cells #[.int .i64 6, .string ⟨#[]⟩, .slice none 0 0, .int .i64 0, .int .i64 0, .slice (some ⟨w6.heap.size, 0, none⟩) 1 1] 26) := ⟨_, rfl⟩
  obtain ⟨n6, hn6⟩ : ∃ n6 : Nat, n6 = w6.heap.size := ⟨_, rfl⟩
  have hx7 : Ext w6 w7 := by rw [hw7]; exact ((Ext.refl _).alloc _).alloc _
  have hg1 : w7.heap[n6]? = some (.cells (ExV.cells ⟨6, ⟨#[]⟩, none, 0, 0, 0, 0, some ⟨n4 + 1, 0, none⟩, 1, 1⟩).toArray 26 (0, 0)) := by rw [hw7, hn6]; exact blk_alloc (alloc_new w6 _)
  have HG7 := Lib.hid (show w7.heap[n6 + 1]? = some (.cells #[.int .i64 6, .string ⟨#[]⟩, .slice none 0 0, .int .i64 0, .int .i64 0, .slice (some ⟨n6, 0, none⟩) 1 1] 26 (0, 0)) by rw [hw7, hn6]; exact alloc_atR (by simp))
  rw [← hw7, ← hn6]
  clear hw7 hn6
  have HIW7 := Lib.hid (HIW6.out.mono hx7.sub)
  have HT7 := Lib.hid (show IsEx w7 (exNot (exNot (exAnd x y))) (exV 6 ⟨#[]⟩ none 0 0 0 0 (some ⟨n6, 0, none⟩) 1 1) from isEx_one 6 hg1 (HN6.out.ext hx7))
  have HN7 := Lib.hid (HN6.out.ext hx7)
  have HR7 := Lib.hid (HR6.out.ext hx7)
  have HB7 := Lib.hid (hx7.blk HB6.out)
  have HGA := Lib.hid (hx7.blk HG36.out)
  have HGB := Lib.hid (hx7.blk HG6.out)
  have HX7 := Lib.hid (HX6.out.trans hx7)
  clear hx7 hg1 HB6 HG36 HG6 HIW6 HIY6 HX6 HN6 HR6 m0 m1 m2 m3 m4 m5 mf
  obtain ⟨c0, c1, c2, c3, c4, c5, c6, c7, c8, cf⟩ := blk9 HB7.out
  have HI7 := Lib.hid (show IntsAt w7 oa on from fun i hi => by obtain ⟨b, off, z, e, hc⟩ := HI2.out i hi; exact ⟨b, off, z, e, HX7.out.cell hc⟩)
  have HSZ := Lib.hid (schema_zero HIW7.out.mem)
  have HSF := Lib.hid (attrs_fits HIW7.out.mem)
  --BEGIN D6
  refine wp_region_growLG (n := 115) (m := 6) [5] (GrGW w7) (GrEX 4) (GrP (dual6R w7 s v oa on oc b5)) (by kernel_rfl) (by kernel_rfl) (Nat.le_of_ble_eq_true rfl) ?gd ((Ext.refl w7).drew) ?_ ?_ ?_
  case gd =>
    intro i o j b hi ho hg
    have hi' : i = 0 ∨ i = 1 ∨ i = 2 ∨ i = 3 ∨ i = 4 ∨ i = 5 := by omega
    rcases hi' with rfl | rfl | rfl | rfl | rfl | rfl <;> (cases ho; first | (cases hg; done) | (cases hg; intro v W h; exact h))
  · intro i k v W W' hi hk hne hout h hE
    have hi' : i = 0 ∨ i = 1 ∨ i = 2 ∨ i = 3 ∨ i = 4 ∨ i = 5 := by omega
    clear hi hk
    by_cases hk : k = 4
    · subst hk
      rcases hi' with rfl | rfl | rfl | rfl | rfl | rfl
      · exact h
      · exact absurd hout (by decide +kernel)
      · exact h
      · exact h
      · exact absurd rfl hne
      · exact absurd hout (by decide +kernel)
    have hE : Ext W W' := (hE ‹_›)
    rcases hi' with rfl | rfl | rfl | rfl | rfl | rfl
    · exact h
    · obtain ⟨bq, e0, h⟩ := h
      exact ⟨bq, e0, h.ext hE⟩
    · exact h
    · exact h
    · obtain ⟨g, ga, gc, e0, h⟩ := h
      exact ⟨g, ga, gc, e0, ⟨h.1, h.2.ext hE⟩⟩
    · obtain ⟨g, ga, gc, e0, h⟩ := h
      exact ⟨g, ga, gc, e0, ⟨h.1, h.2.ext hE⟩⟩
  · intro q op hq ho L vs W hqL hcL hW hd ρ hρ
    have hq' : q = 0 ∨ q = 1 ∨ q = 2 ∨ q = 3 ∨ q = 4 ∨ q = 5 := by omega
    clear hq
    have o1 : ρ (.tmp 1) = .slice oa on oc := hρ.out 1 rfl
    have i0 := hρ.ins 0 46 (by omega) rfl (Nat.le_of_ble_eq_true rfl)
    have o5 : ρ (.tmp 5) = .pointer (some ⟨b5, 0, none⟩) := hρ.out 5 rfl
    have i2 := hρ.ins 2 48 (by omega) rfl (Nat.le_of_ble_eq_true rfl)
    have i1 := hρ.ins 1 47 (by omega) rfl (Nat.le_of_ble_eq_true rfl)
    have i3 := hρ.ins 3 49 (by omega) rfl (Nat.le_of_ble_eq_true rfl)
    have i4 := hρ.ins 4 50 (by omega) rfl (Nat.le_of_ble_eq_true rfl)
    have hc := hρ.const
    have hfn := hρ.func
    clear hρ
    rcases hq' with rfl | rfl | rfl | rfl | rfl | rfl
    · have HG := Lib.hid hW
      have HW := Lib.hid (show Ext w7 W from hW)
      have HQL := Lib.hid hqL
      clear hW hqL hcL
      cases ho
      clear hd
      unfold GivesOp
      go_simp
      exact ⟨fun _ => Ext.refl _, HW.out, rfl⟩
    · have HG := Lib.hid hW
      have HW := Lib.hid (show Ext w7 W from hW)
      have HQL := Lib.hid hqL
      clear hW hqL hcL
      cases ho
      have h0 : vs 0 = .slice oa on oc := hd ⟨0, .data⟩ (by simp) rfl
      rw [h0] at i0
      clear hd
      unfold GivesOp
      go_simp
      refine (new_callsB oa on oc w7 W HI7.out HW.out hd2).mono ?_
      rintro r5 w5 ⟨b6, rfl, hd5, hx5, hb6⟩
      exact ⟨_, rfl, fun _ => hx5, HW.out.trans hx5, b6, rfl, hd5⟩
    · have HG := Lib.hid hW
      have HW := Lib.hid (show Ext w7 W from hW)
      have HQL := Lib.hid hqL
      clear hW hqL hcL
      cases ho
      clear hd
      unfold GivesOp
      go_simp
      exact ⟨fun _ => Ext.refl _, HW.out, rfl⟩
    · have HG := Lib.hid hW
      have HW := Lib.hid (show Ext w7 W from hW)
      have HQL := Lib.hid hqL
      clear hW hqL hcL
      cases ho
      have h2 : vs 2 = .pointer (some ⟨b5, 0, none⟩) := hd ⟨2, .data⟩ (by simp) rfl
      rw [h2] at i2
      clear hd
      have g0 := HW.out.cell c0
      unfold GivesOp
      go_simp
      exact ⟨fun _ => Ext.refl _, HW.out, rfl⟩
    · have HG := Lib.hid hW
      have HW := Lib.hid (show Ext w7 W from hW)
      have HQL := Lib.hid hqL
      clear hW hqL hcL
      cases ho
      obtain ⟨bq, h1, hs1⟩ : ∃ (bq : Nat), vs 1 = .pointer (some ⟨bq, 0, none⟩) ∧ DeckAt w7 W bq := hd ⟨1, .data⟩ (by simp) rfl
      have HS1 := Lib.hid hs1
      clear hs1
      rw [h1] at i1
      have h3 : vs 3 = .agg #[.slice v.sa v.sn v.sc] := hd ⟨3, .data⟩ (by simp) rfl
      rw [h3] at i3
      clear hd
      unfold GivesOp
      go_simp
      refine (dfacts_calls HSZ.out HSF.out HS1.out _ _ _ [] (HIW7.out.sch.mono (sub_freshW HW.out (deck_lowW HS1.out))) (by simp)).mono ?_
      rintro r5 w5 ⟨g, ga, gc, rfl, hg1, -, hg2, hd5, hc5⟩
      exact ⟨_, rfl, fun h => absurd rfl h, hc5.ext HW.out (fun y hy => by simp only [List.mem_singleton] at hy; rw [hy]; exact deck_lowW HS1.out), g, ga, gc, rfl, hg1, hg2.mono (mask_sub _ _)⟩
    · have HG := Lib.hid hW
      have HW := Lib.hid (show Ext w7 W from hW)
      have HQL := Lib.hid hqL
      clear hW hqL hcL
      cases ho
      obtain ⟨g, ga, gc, h4, hs4⟩ : ∃ (g : List Int) (ga : Option Addr) (gc : Nat), vs 4 = .slice ga g.length gc ∧ (factsAll s g = true ∧ IsIntF W g ga g.length) := hd ⟨4, .data⟩ (by simp) rfl
      have HS4 := Lib.hid hs4
      clear hs4
      rw [h4] at i4
      clear hd
      unfold GivesOp
      go_simp
      exact ⟨fun _ => Ext.refl _, HW.out, _, _, _, rfl, HS4.out⟩
  intro L vs W hLm hW hR
  rw [if_pos (by decide +kernel)]
  obtain ⟨g, ga, gc, h5, hs5⟩ : ∃ (g : List Int) (ga : Option Addr) (gc : Nat), vs 5 = .slice ga g.length gc ∧ (factsAll s g = true ∧ IsIntF W g ga g.length) := hR 5 (by simp) (by omega)
  have HS5 := Lib.hid hs5
  clear hs5
  simp only [acts, dstAt, List.range, List.range.loop, List.foldl_cons, List.foldl_nil, h5]
  go_simp
  have hW2 : Ext w7 W := hW
  clear hR hW hLm h5
  --END D6
  obtain ⟨gn, hgn⟩ : ∃ gn, gn = g.length := ⟨_, rfl⟩
  have HFG := Lib.hid HS5.out.1
  have hgl : gn ≤ 1000 := by rw [hgn, factsAll_len HFG.out]; exact (schemas_ok s HIW7.out.mem).2.2
  have HGI := Lib.hid (show IsIntF W g ga gn by rw [hgn]; exact HS5.out.2)
  rw [← hgn]
  have HXW := Lib.hid hW2
  have HIW8 := Lib.hid (HIW7.out.mono hW2.sub)
  have HN8 := Lib.hid (HN7.out.ext hW2)
  have HR8 := Lib.hid (HR7.out.ext hW2)
  have HT8 := Lib.hid (HT7.out.ext hW2)
  have HO8 := Lib.hid (HO.out.ext (HX7.out.trans hW2))
  have HB8 := Lib.hid (hW2.blk HB7.out)
  have HG8 := Lib.hid (hW2.blk HGA.out)
  have HG9 := Lib.hid (hW2.blk HGB.out)
  have HGC := Lib.hid (hW2.blk HG7.out)
  clear hgn hW2 HS5 c0 c1 c2 c3 c4 c5 c6 c7 c8 cf HIW7 HN7 HR7 HT7 HB7 HGA HGB HG7
  have hta : Term s l 5 54 1014 (exAnd x y) := Term.two (Or.inl rfl) HIW8.out.term (HBT.out.1.weak (by omega) (Nat.le_refl _) (Nat.le_refl _))
  have htn := hta.not
  have htt := htn.not
  have hto : Term s l 6 56 1016 (exOr (exNot x) (exNot y)) := Term.two (Or.inr rfl) HIW8.out.term.not ((HBT.out.1.not).weak (by omega) (Nat.le_refl _) (Nat.le_refl _))
  have hc0 := HIW8.out.cls
  have HV1 := Lib.hid (show ∀ W', Ext W W' → Calls Tryz.prog 25 #[.agg #[.slice v.sa v.sn v.sc], .slice v.la v.ln v.lc, .agg #[.int .i64 6, .string ⟨#[]⟩, .slice none 0 0, .int .i64 0, .int .i64 0, .slice (some ⟨n4 + 1, 0, none⟩) 1 1], .slice ga gn gc] W' (GivesE (.tuple #[.bool (val s l g (exNot (exAnd x y))), .int .i64 0]) W') from fun W' hW' => dual_eval htn (by omega) (by omega) (by omega) hc0 HFG.out (HIW8.out.mono hW'.sub) (HO8.out.ext hW') (HN8.out.ext hW') (HGI.out.ext hW') (by omega))
  have HV2 := Lib.hid (show ∀ W', Ext W W' → Calls Tryz.prog 25 #[.agg #[.slice v.sa v.sn v.sc], .slice v.la v.ln v.lc, .agg #[.int .i64 8, .string ⟨#[]⟩, .slice none 0 0, .int .i64 0, .int .i64 0, .slice (some ⟨n5 + 1 + 1, 0, none⟩) 2 2], .slice ga gn gc] W' (GivesE (.tuple #[.bool (val s l g (exOr (exNot x) (exNot y))), .int .i64 0]) W') from fun W' hW' => dual_eval hto (by omega) (by omega) (by omega) hc0 HFG.out (HIW8.out.mono hW'.sub) (HO8.out.ext hW') (HR8.out.ext hW') (HGI.out.ext hW') (by omega))
  have HV3 := Lib.hid (show ∀ W', Ext W W' → Calls Tryz.prog 25 #[.agg #[.slice v.sa v.sn v.sc], .slice v.la v.ln v.lc, .agg #[.int .i64 6, .string ⟨#[]⟩, .slice none 0 0, .int .i64 0, .int .i64 0, .slice (some ⟨n6, 0, none⟩) 1 1], .slice ga gn gc] W' (GivesE (.tuple #[.bool (val s l g (exNot (exNot (exAnd x y)))), .int .i64 0]) W') from fun W' hW' => dual_eval htt (by omega) (by omega) (by omega) hc0 HFG.out (HIW8.out.mono hW'.sub) (HO8.out.ext hW') (HT8.out.ext hW') (HGI.out.ext hW') (by omega))
  rw [← de_morgan] at HV2
  rw [val_not s l g (exNot (exAnd x y))] at HV3
  obtain ⟨B, hB⟩ : ∃ B, B = val s l g (exNot (exAnd x y)) := ⟨_, rfl⟩
  rw [← hB] at HV1 HV2 HV3
  have HAW := Lib.hid (fun W' (hW' : Ext W W') => awake11_calls W' (HO8.out.ext hW'))
  clear hB hta htn htt hto hc0 HIW8 HN8 HR8 HT8 HO8 HGI HFG HBT
  obtain ⟨c0, c1, c2, c3, c4, c5, c6, c7, c8, cf⟩ := blk9 HB8.out
  obtain ⟨m0, m1, m2, m3, m4, m5, mf⟩ := blk6 HG8.out
  have HXQ := Lib.hid (HX7.out.trans HXW.out)
  go_wp2_with fail
  refine (HV1.out W (Ext.refl _)).mono ?_
  rintro r wA ⟨rfl, hxA⟩
  clear c0 c1 c2 c3 c4 c5 c6 c7 c8 cf m0 m1 m2 m3 m4 m5 mf
  obtain ⟨c0, c1, c2, c3, c4, c5, c6, c7, c8, cf⟩ := blk9 (hxA.blk HB8.out)
  obtain ⟨m0, m1, m2, m3, m4, m5, mf⟩ := blk6 (hxA.blk HG9.out)
  have HXA := Lib.hid hxA
  clear hxA
  go_wp2_with fail
  refine (HV2.out wA HXA.out).mono ?_
  rintro r wB ⟨rfl, hxB⟩
  have HXB := Lib.hid (HXA.out.trans hxB)
  clear hxB c0 c1 c2 c3 c4 c5 c6 c7 c8 cf m0 m1 m2 m3 m4 m5 mf
  obtain ⟨c0, c1, c2, c3, c4, c5, c6, c7, c8, cf⟩ := blk9 (HXB.out.blk HB8.out)
  obtain ⟨m0, m1, m2, m3, m4, m5, mf⟩ := blk6 (HXB.out.blk HGC.out)
  go_wp2_with fail
  refine (HV3.out wB HXB.out).mono ?_
  rintro r wC ⟨rfl, hxC⟩
  have HXC := Lib.hid (HXB.out.trans hxC)
  clear hxC c0 c1 c2 c3 c4 c5 c6 c7 c8 cf m0 m1 m2 m3 m4 m5 mf
  cases B
  all_goals
    go_wp2_with fail
    refine (HAW.out wC HXC.out).mono ?_
    rintro r wD ⟨rfl, hxD⟩
    have HXD := Lib.hid (HXQ.out.trans (HXC.out.trans hxD))
    clear hxD
    go_wp2_with fail
    go_ret
    exact ⟨rfl, HXD.out⟩
end Go.Proofs.YtpkljcgihobaiaaGreatDoor
