/-
  Texts of the claim, joined: ValidLaw.
-/
import Derived.Test.YtaepiiediblleaaDoorVa11
import Derived.Test.YtaepiiediblleaaDoorVa17
import Derived.Test.YtaepiiediblleaaDoorVa18
import Derived.Test.YtaepiiediblleaaDoorVa19
namespace Go.Proofs.YtaepiiediblleaaDoor
open Go.RowKit

theorem small_calls (e : Ex) (v : Value) (w : World) (he : IsEx w e v) : Calls Tryd.prog 17 #[v] w (GivesE (.bool (decide (refSize e ≤ 300))) w) := by
  obtain ⟨aw, nw, cw, aa, na, ca, rfl, hw, hna, hca, ha, hx⟩ := he.parts
  have HX := Lib.hid ((Ext.refl w).alloc (.cells #[.int .i64 e.op, .string e.name, .slice aw nw cw, .int .i64 e.lo, .int .i64 e.hi, .slice aa na ca] 26))
  have HC := Lib.hid (rsize_calls e.size e _ _ (Nat.le_refl _) (he.ext HX.out))
  clear hw hna hca ha hx he
  unfold exV at *
  go_enter Tryd.func17, Tryd.ntmps17
  go_wp2_with fail
  refine HC.out.mono ?_
  rintro r w1 ⟨rfl, hx1⟩
  have HX1 := Lib.hid (HX.out.trans hx1)
  clear hx1
  generalize refSize e = N at *
  go_wp2_with fail
  all_goals (go_ret; exact givesE_bool (by rw [Bool.eq_iff_iff]; simp; try omega) HX1.out)

def tab5 (A E B X : Value) (ve vb cab cex : Bool) (bs bdp es : Int) : List Value := [A, .bool true, .bool true, E, .bool ve, E, .bool ve, .bool true, .bool true, .bool true, B, .bool vb, B, .bool vb, .bool true, .bool true, .bool true, B, .int .i64 bs, B, .int .i64 bs, .bool true, .bool true, .bool true, B, .int .i64 bdp, B, .int .i64 bdp, .bool true, .bool true, .bool true, E, .int .i64 es, E, .int .i64 es, .bool true, .bool true, .bool true, A, A, .bool true, .bool true, .bool true, A, B, .bool cab, A, B, .bool cab, .bool true, .bool true, .bool true, E, X, .bool cex, E, X, .bool cex, .bool true, .bool true, .bool true, .bool true, .bool true]
def Rv5 (tab : List Value) (i : Nat) (u : Value) (_ : World) : Prop := u = tab.getD i undef
def Gv5 (W4 : World) (_ : List Nat) (_ : Nat → Value) (W : World) : Prop := Ext W4 W
def Ev5 (_ : Nat) (W W' : World) : Prop := Ext W W'
/-- The guards: each looks at a conjunct that is true. -/
def guards5 (ops : Array Oper) : Bool := ops.all fun o => match o.guard with | none => true | some (j, b) => b && [2, 9, 16, 23, 30, 37, 42, 51, 60].contains j
theorem gd5 {ops : Array Oper} (h : guards5 ops = true) {A E B X : Value} {ve vb cab cex : Bool} {bs bdp es : Int} : ∀ i o j b, i < 63 → ops[i]? = some o → o.guard = some (j, b) → ∀ v W, Rv5 (tab5 A E B X ve vb cab cex bs bdp es) j v W → v = .bool b := by
  intro i o j b _ ho hg v W hR
  have h1 := Array.all_eq_true_iff_forall_mem.1 h o (Array.mem_of_getElem? ho)
  rw [hg] at h1
  simp only [Bool.and_eq_true, List.contains_iff_mem] at h1
  obtain ⟨rfl, h2⟩ := h1
  simp only [List.mem_cons, List.not_mem_nil, or_false] at h2
  rcases h2 with rfl | rfl | rfl | rfl | rfl | rfl | rfl | rfl | rfl <;> exact hR
theorem bool_of_iff {B c : Bool} {P : Prop} (h : B = true ↔ P) (hc : c = true ↔ P) : B = c := by
  cases B <;> cases c <;> simp_all
theorem sub_above {w W : World} {N : List Nat} (h : Ext w W) (hn : ∀ y ∈ N, w.heap.size ≤ y) : Sub w (mask W N) := fun q v hp => by
  rw [mask_cell, if_neg (fun hm => by have := hn _ hm; have := block_lt hp; omega)]
  exact h.cell hp
def zeroB : Obj := .cells #[.int .i64 0, .string ⟨#[]⟩, .slice none 0 0, .int .i64 0, .int .i64 0, .slice none 0 0] 26 (0, 0)
/-- What is known of an expression that was spoilt. -/
def SpB (b : Ex) : Prop := b.fits ∧ b.few ∧ b.size ≤ 1000
def Gv4 (W3 : World) (L : List Nat) (vs : Nat → Value) (W : World) : Prop := Ext W3 W ∧ (5 ∈ L → ∃ bb, vs 5 = .pointer (some ⟨bb, 0, none⟩) ∧ W3.heap.size ≤ bb ∧ W.heap[bb]? = some zeroB) ∧ (4 ∈ L → ∃ b xb, vs 4 = ExV.val xb ∧ SpB b ∧ IsEx W b xb.val) ∧
  (4 ∈ L → 5 ∈ L → ∃ bb b xb, vs 5 = .pointer (some ⟨bb, 0, none⟩) ∧ W3.heap.size ≤ bb ∧ W.heap[bb]? = some zeroB ∧ vs 4 = ExV.val xb ∧ SpB b ∧ IsEx (mask W [bb]) b xb.val)
def Ev4 (k : Nat) (W W' : World) : Prop := k = 4 ∨ Ext W W'
def Rv4 (W3 : World) (xa xv : Value) (l : Option Addr) (n c : Nat) : Nat → Value → World → Prop
  | 0, u, _ => u = xa
  | 1, u, _ => u = .slice l n c
  | 2, u, W => ∃ bd w0, u = .pointer (some ⟨bd, 0, none⟩) ∧ DeckAt w0 W bd ∧ W3.heap.size ≤ bd
  | 3, u, _ => u = xv
  | _, _, _ => True
theorem rv4_keeps {ops : Array Oper} {W3 : World} {xa xv : Value} {l : Option Addr} {n c : Nat} (hq : outlastsG ops 6 [] 2 4 = false) : ∀ i k u W W', i < 6 → k < 6 → i ≠ k → outlastsG ops 6 [] i k = true → Rv4 W3 xa xv l n c i u W → Ev4 k W W' → Rv4 W3 xa xv l n c i u W' := by
  intro i k u W W' hi hk hne ho hR hE
  have hi' : i = 0 ∨ i = 1 ∨ i = 2 ∨ i = 3 ∨ i = 4 ∨ i = 5 := by omega
  rcases hi' with rfl | rfl | rfl | rfl | rfl | rfl
  case inr.inr.inl =>
    rcases hE with rfl | hE
    · rw [hq] at ho; cases ho
    · obtain ⟨bd, w0, h1, h2, h3⟩ := hR
      exact ⟨bd, w0, h1, h2.ext hE, h3⟩
  all_goals exact hR
theorem deck_ne {w0 W : World} {bd bb : Nat} (h : DeckAt w0 W bd) (hb : W.heap[bb]? = some zeroB) : bb ≠ bd := fun e => by
  subst e
  obtain ⟨la, ln, lc, k, h1, _⟩ := h
  rw [h1] at hb
  unfold zeroB at hb
  simp at hb
theorem gv4_plain {W3 : World} {L : List Nat} {vs : Nat → Value} {W W' : World} (h : Gv4 W3 L vs W) (hx : Ext W W') {i : Nat} (h4 : i ≠ 4) (h5 : i ≠ 5) (v : Value) : Gv4 W3 (L ++ [i]) (upd vs i v) W' := by
  have m4 : 4 ∈ L ++ [i] → 4 ∈ L := fun h => by simp at h; rcases h with h | h; exact h; omega
  have m5 : 5 ∈ L ++ [i] → 5 ∈ L := fun h => by simp at h; rcases h with h | h; exact h; omega
  have e4 : upd vs i v 4 = vs 4 := by unfold upd; rw [if_neg (fun h => h4 h.symm)]
  have e5 : upd vs i v 5 = vs 5 := by unfold upd; rw [if_neg (fun h => h5 h.symm)]
  unfold Gv4
  rw [e4, e5]
  refine ⟨h.1.trans hx, fun hm => ?_, fun hm => ?_, fun hm hm5 => ?_⟩
  · obtain ⟨bb, q1, q2, q3⟩ := h.2.1 (m5 hm)
    exact ⟨bb, q1, q2, hx.blk q3⟩
  · obtain ⟨b, xb, q1, q2, q3⟩ := h.2.2.1 (m4 hm)
    exact ⟨b, xb, q1, q2, q3.ext hx⟩
  · obtain ⟨bb, b, xb, q1, q2, q3, q4, q5, q6⟩ := h.2.2.2 (m4 hm) (m5 hm5)
    exact ⟨bb, b, xb, q1, q2, hx.blk q3, q4, q5, q6.mono (mask_ext _ hx)⟩

set_option maxRecDepth 100000 in
set_option maxHeartbeats 4000000 in
theorem svalid_calls (e x : Ex) (ev xv : Value) (l1 l2 : Option Addr) (n1 q1 n2 q2 : Nat) (w : World) (ho : HasOps w) (he : IsEx w e ev) (hx : IsEx w x xv) (hef : e.fits) (hew : e.few) (hxf : x.fits) (hxw : x.few) (h1 : IntsAt w l1 n1) (h2 : IntsAt w l2 n2) (g1 : n1 ≤ 1000000000000000) (g2 : n2 ≤ 1000000000000000) :
    Calls Tryd.prog 6 #[ev, xv, .slice l1 n1 q1, .slice l2 n2 q2] w (GivesE (.bool true) w) := by
  obtain ⟨aw, nw, cw, aa, na, ca, rfl, -, -, -, -, -⟩ := he.parts
  obtain ⟨aw', nw', cw', ab, nb, cb, rfl, -, -, -, -, -⟩ := hx.parts
  have HO := Lib.hid ho
  have HE := Lib.hid he
  have HXX := Lib.hid hx
  have HEF := Lib.hid (And.intro hef hew)
  have HXF := Lib.hid (And.intro hxf hxw)
  have H1 := Lib.hid h1
  have H2 := Lib.hid h2
  have HE2 := Lib.hid (((Ext.refl w).alloc (.cells #[.int .i64 e.op, .string e.name, .slice aw nw cw, .int .i64 e.lo, .int .i64 e.hi, .slice aa na ca] 26)).alloc (.cells #[.int .i64 x.op, .string x.name, .slice aw' nw' cw', .int .i64 x.lo, .int .i64 x.hi, .slice ab nb cb] 26))
  have HBE := Lib.hid (blk_alloc (o' := .cells #[.int .i64 x.op, .string x.name, .slice aw' nw' cw', .int .i64 x.lo, .int .i64 x.hi, .slice ab nb cb] 26) (alloc_new w (.cells #[.int .i64 e.op, .string e.name, .slice aw nw cw, .int .i64 e.lo, .int .i64 e.hi, .slice aa na ca] 26)))
  have HBX := Lib.hid (alloc_at (w := w.alloc (.cells #[.int .i64 e.op, .string e.name, .slice aw nw cw, .int .i64 e.lo, .int .i64 e.hi, .slice aa na ca] 26)) (o := .cells #[.int .i64 x.op, .string x.name, .slice aw' nw' cw', .int .i64 x.lo, .int .i64 x.hi, .slice ab nb cb] 26) (n := w.heap.size + 1) (by simp))
  clear ho he hx hef hew hxf hxw h1 h2
  unfold exV at *
  go_enter Tryd.func6, Tryd.ntmps6
  go_upto_region 1 with fail
  generalize (w.alloc (.cells #[.int .i64 e.op, .string e.name, .slice aw nw cw, .int .i64 e.lo, .int .i64 e.hi, .slice aa na ca] 26)).alloc (.cells #[.int .i64 x.op, .string x.name, .slice aw' nw' cw', .int .i64 x.lo, .int .i64 x.hi, .slice ab nb cb] 26) = wb at *
  obtain ⟨b0, b1, b2, b3, b4, b5, bf⟩ := blk6 HBE.out
  have hlb := blk_lt HBE.out
  go_cut [18] (fun s18 wx => s18 = .bool (!decide (refSize e ≤ 300) || !decide (refSize x ≤ 300)) ∧ Ext wb wx)
  case first =>
    have HSE := Lib.hid (small_calls e _ wb (HE.out.ext HE2.out))
    have HSX := Lib.hid (fun (W : World) (hW : Ext wb W) => small_calls x _ W (HXX.out.ext (HE2.out.trans hW)))
    cases ce : decide (refSize e ≤ 300)
    case false =>
      rw [ce] at HSE
      go_wp2_with fail
      refine HSE.out.mono ?_
      rintro r w1 ⟨rfl, hx1⟩
      have HX1 := Lib.hid hx1
      clear hx1
      go_wp2_with fail
      go_meet
      case rel => exact ⟨by rw [ce]; rfl, HX1.out⟩
    case true =>
    rw [ce] at HSE
    go_wp2_with fail
    refine HSE.out.mono ?_
    rintro r w1 ⟨rfl, hx1⟩
    have HX1 := Lib.hid hx1
    have HBX1 := Lib.hid (hx1.blk HBX.out)
    clear hx1 b0 b1 b2 b3 b4 b5 bf hlb
    obtain ⟨b0, b1, b2, b3, b4, b5, bf⟩ := blk6 HBX1.out
    have hlb := blk_lt HBX1.out
    go_wp2_with fail
    refine (HSX.out _ HX1.out).mono ?_
    rintro r w2 ⟨rfl, hx2⟩
    have HX2 := Lib.hid (HX1.out.trans hx2)
    clear hx2 b0 b1 b2 b3 b4 b5 bf hlb
    go_wp2_with fail
    go_meet
    case rel => exact ⟨by rw [ce]; rfl, HX2.out⟩
  case rest =>
  obtain ⟨rfl, hxc⟩ := hcut
  have HXC := Lib.hid (HE2.out.trans hxc)
  have HBE := Lib.hid (hxc.blk HBE.out)
  have HBX := Lib.hid (hxc.blk HBX.out)
  clear hxc b0 b1 b2 b3 b4 b5 bf hlb
  by_cases hsm : refSize e ≤ 300 ∧ refSize x ≤ 300
  case neg =>
    have t1 : (!decide (refSize e ≤ 300) || !decide (refSize x ≤ 300)) = true := by
      by_cases h : refSize e ≤ 300
      · have h2 : ¬ refSize x ≤ 300 := fun h2 => hsm ⟨h, h2⟩
        simp [h2]
      · simp [h]
    rw [t1]
    clear hsm t1
    go_wp2_with fail
    refine (awake_calls _ (HO.out.ext HXC.out)).mono ?_
    rintro r w2 ⟨rfl, hx2⟩
    go_wp2_with fail
    go_ret
    exact ⟨rfl, HXC.out.trans hx2⟩
  case pos =>
  have t1 : (!decide (refSize e ≤ 300) || !decide (refSize x ≤ 300)) = false := by simp [hsm]
  have hse : e.size ≤ 300 := by have := hsm.1; unfold refSize at this; omega
  have hsx : x.size ≤ 300 := by have := hsm.2; unfold refSize at this; omega
  rw [t1]
  clear hsm t1
  go_wp2_with fail
  refine (lexpr_fine _ _ _ _ (H1.out.ext HXC.out) g1).mono ?_
  rintro r w2 ⟨a, xa, rfl, hfa, hia, hx2⟩
  have HFA := Lib.hid hfa
  have HXA := Lib.hid ((Ext.refl w2).alloc (.cells xa.cells.toArray 26))
  have HBA := Lib.hid (alloc_new w2 (.cells xa.cells.toArray 26))
  have HIA := Lib.hid (hia.ext HXA.out)
  have HX3 := Lib.hid ((HXC.out.trans hx2).trans HXA.out)
  have HBE := Lib.hid (HXA.out.blk (hx2.blk HBE.out))
  have HBX := Lib.hid (HXA.out.blk (hx2.blk HBX.out))
  clear hfa hia hx2 HXC
  unfold ExV.cells at HXA HBA HIA HX3 HBE HBX
  unfold ExV.val exV
  go_upto_region 4 with fail
  generalize w2.alloc (.cells [.int .i64 xa.op, .string xa.name, .slice xa.aw xa.nw xa.cw, .int .i64 xa.lo, .int .i64 xa.hi, .slice xa.aa xa.na xa.ca].toArray 26) = W3 at *
  obtain ⟨x0, x1, x2, x3, x4, x5, xf⟩ := blk6 HBX.out
  obtain ⟨a0, a1, a2, a3, a4, a5, af⟩ := blk6 HBA.out
  have hlx := blk_lt HBX.out
  have hla := blk_lt HBA.out
  have hsa : a.size ≤ 121 := HFA.out.size
  refine wp_region_growLG (m := 6) (n := 0) [] (Gv4 W3) Ev4 (Rv4 W3 xa.val (exV x.op x.name aw' nw' cw' x.lo x.hi ab nb cb) l2 n2 q2) (by kernel_rfl) (by kernel_rfl) (Nat.zero_le _) ?gd ⟨(Ext.refl _).drew, fun h => by simp at h, fun h => by simp at h, fun h => by simp at h⟩ (rv4_keeps (by kernel_rfl)) ?_ ?_
  case gd =>
    intro i o j b hi ho hg
    have hi' : i = 0 ∨ i = 1 ∨ i = 2 ∨ i = 3 ∨ i = 4 ∨ i = 5 := by omega
    rcases hi' with rfl | rfl | rfl | rfl | rfl | rfl <;> (cases ho; cases hg)
  · intro i o hi ho L vs W hiL hnc hG hd ρ hρ
    have hi' : i = 0 ∨ i = 1 ∨ i = 2 ∨ i = 3 ∨ i = 4 ∨ i = 5 := by omega
    clear hi
    have o9 : ρ (.tmp 9) = .pointer (some ⟨w2.heap.size, 0, none⟩) := hρ.out 9 rfl
    have o3 : ρ (.tmp 3) = .slice l2 n2 q2 := hρ.out 3 rfl
    have o5 : ρ (.tmp 5) = .pointer (some ⟨w.heap.size + 1, 0, none⟩) := hρ.out 5 rfl
    have i0 := hρ.ins 0 22 (by omega) rfl (Nat.le_of_ble_eq_true rfl)
    have i1 := hρ.ins 1 23 (by omega) rfl (Nat.le_of_ble_eq_true rfl)
    have i2 := hρ.ins 2 24 (by omega) rfl (Nat.le_of_ble_eq_true rfl)
    have i3 := hρ.ins 3 25 (by omega) rfl (Nat.le_of_ble_eq_true rfl)
    have hcs := hρ.const
    have hfn := hρ.func
    clear hρ
    have hW := hG.1
    replace x0 := hW.cell x0
    replace x1 := hW.cell x1
    replace x2 := hW.cell x2
    replace x3 := hW.cell x3
    replace x4 := hW.cell x4
    replace x5 := hW.cell x5
    replace a0 := hW.cell a0
    replace a1 := hW.cell a1
    replace a2 := hW.cell a2
    replace a3 := hW.cell a3
    replace a4 := hW.cell a4
    replace a5 := hW.cell a5
    have hzW := hW.size
    have HG := Lib.hid hG
    clear hG hW af xf
    rcases hi' with rfl | rfl | rfl | rfl | rfl | rfl
    · cases ho
      unfold GivesOp
      go_simp
      exact ⟨Or.inr (Ext.refl _), gv4_plain HG.out (Ext.refl _) (by omega) (by omega) _, rfl⟩
    · cases ho
      unfold GivesOp
      go_simp
      exact ⟨Or.inr (Ext.refl _), gv4_plain HG.out (Ext.refl _) (by omega) (by omega) _, rfl⟩
    · cases ho
      have h1 : vs 1 = _ := hd ⟨1, .data⟩ (by simp) rfl
      rw [h1] at i1
      unfold GivesOp
      go_simp
      refine (new_calls l2 n2 q2 W ((H2.out.ext HX3.out).ext HG.out.1) g2).mono ?_
      rintro r W' ⟨bd, rfl, hdk, hxk, hbd⟩
      exact ⟨_, rfl, Or.inr hxk, gv4_plain HG.out hxk (by omega) (by omega) _, bd, W, rfl, hdk, by omega⟩
    · cases ho
      unfold GivesOp
      go_simp
      exact ⟨Or.inr (Ext.refl _), gv4_plain HG.out (Ext.refl _) (by omega) (by omega) _, rfl⟩
    · cases ho
      have h0 : vs 0 = _ := hd ⟨0, .data⟩ (by simp) rfl
      rw [h0] at i0
      obtain ⟨bd, wd, h2, hdk, hbd⟩ := hd ⟨2, .data⟩ (by simp) rfl
      rw [h2] at i2
      have h3 : vs 3 = _ := hd ⟨3, .data⟩ (by simp) rfl
      rw [h3] at i3
      have HDK := Lib.hid hdk
      clear hdk hd
      unfold GivesOp
      go_simp
      have hfin : ∀ M : List Nat, (∀ y ∈ M, W3.heap.size ≤ y ∧ y < W.heap.size) → Calls Tryd.prog 18 #[xa.val, .pointer (some ⟨bd, 0, none⟩), ExV.val ⟨x.op, x.name, aw', nw', cw', x.lo, x.hi, ab, nb, cb⟩] W (SpoiltQ a x wd bd M W) := fun M hM =>
        spoilt_calls 1001 (by omega) a x xa ⟨x.op, x.name, aw', nw', cw', x.lo, x.hi, ab, nb, cb⟩ wd W bd M (by omega) HFA.out.ok HDK.out (HIA.out.mono (sub_above HG.out.1 (by intro y hy; rcases List.mem_cons.1 hy with rfl | hy; exact hbd; exact (hM y hy).1))) ((HXX.out.ext HX3.out).mono (sub_above HG.out.1 (by intro y hy; rcases List.mem_cons.1 hy with rfl | hy; exact hbd; exact (hM y hy).1))) HXF.out.1 HXF.out.2 (fun y hy => (hM y hy).2)
      by_cases h5 : 5 ∈ L
      · obtain ⟨bb, q1, q2, q3⟩ := HG.out.2.1 h5
        have hne := deck_ne HDK.out q3
        have hbb := blk_lt q3
        refine (hfin [bb] (by simp; omega)).mono ?_
        rintro r W' ⟨b, vb, rfl, f1, f2, f3, f4, f5, f6⟩
        have hxW : Ext W3 W' := f6.ext HG.out.1 (by simpa using hbd)
        have hsp : SpB b := ⟨f1, f2, by omega⟩
        have hb' := f6.blk q3 (by simpa using hne)
        have e5 : upd vs 4 vb.val 5 = vs 5 := rfl
        have e4 : upd vs 4 vb.val 4 = vb.val := rfl
        refine ⟨_, rfl, Or.inl rfl, ⟨hxW, fun _ => ⟨bb, by rw [e5]; exact q1, q2, hb'⟩, fun _ => ⟨b, vb, e4, hsp, f4.mono (mask_sub _ _)⟩, fun _ _ => ⟨bb, b, vb, by rw [e5]; exact q1, q2, hb', e4, hsp, f4.mono (mask_less _ (by simp))⟩⟩, trivial⟩
      · refine (hfin [] (by simp)).mono ?_
        rintro r W' ⟨b, vb, rfl, f1, f2, f3, f4, f5, f6⟩
        have hxW : Ext W3 W' := f6.ext HG.out.1 (by simpa using hbd)
        have hsp : SpB b := ⟨f1, f2, by omega⟩
        have e4 : upd vs 4 vb.val 4 = vb.val := rfl
        have n5 : 5 ∉ L ++ [4] := by simpa using h5
        exact ⟨_, rfl, Or.inl rfl, ⟨hxW, fun h => absurd h n5, fun _ => ⟨b, vb, e4, hsp, f4.mono (mask_sub _ _)⟩, fun _ h => absurd h n5⟩, trivial⟩
    · cases ho
      unfold GivesOp
      go_simp
      have hal : Ext W (W.alloc zeroB) := (Ext.refl W).alloc _
      have e5 : upd vs 5 (.pointer (some ⟨W.heap.size, 0, none⟩)) 5 = .pointer (some ⟨W.heap.size, 0, none⟩) := rfl
      have e4 : upd vs 5 (.pointer (some ⟨W.heap.size, 0, none⟩)) 4 = vs 4 := rfl
      have m4 : 4 ∈ L ++ [5] → 4 ∈ L := fun h => by simpa using h
      refine ⟨Or.inr hal, ⟨HG.out.1.trans hal, fun _ => ⟨_, e5, hzW, alloc_new W _⟩, fun h => ?_, fun h _ => ?_⟩, trivial⟩
      · obtain ⟨b, xb, q1, q2, q3⟩ := HG.out.2.2.1 (m4 h)
        exact ⟨b, xb, by rw [e4]; exact q1, q2, q3.ext hal⟩
      · obtain ⟨b, xb, q1, q2, q3⟩ := HG.out.2.2.1 (m4 h)
        exact ⟨_, b, xb, e5, hzW, alloc_new W _, by rw [e4]; exact q1, q2, q3.mono (sub_above hal (by simp))⟩
  · intro L vs W hall hG _
    rw [if_neg (by decide +kernel)]
    obtain ⟨bb, b, xb, q1, q2, q3, q4, q5, q6⟩ := hG.2.2.2 (hall 4 (by omega)) (hall 5 (by omega))
    have HSP := Lib.hid q5
    have HIB := Lib.hid q6
    have hW := hG.1
    have HXW := Lib.hid (HX3.out.trans hW)
    have HW := Lib.hid hW
    have hP := put6_blk (t := 26) (y := exV0) q3 xb
    have hC := put6_chg W bb xb (N := [bb]) (by simp)
    have hbl := blk_lt q3
    unfold ExV.val exV at q4
    unfold zeroB at q3
    obtain ⟨z0, z1, z2, z3, z4, z5, zf⟩ := blk6 q3
    unfold wpOp
    simp only [acts, dstAt, List.range, List.range.loop, List.foldl_cons, List.foldl_nil, q1, q4]
    go_simp
    refine Or.inl ?_
    have HW4 := Lib.hid (hC.ext hW (by simpa using q2))
    have HBB := Lib.hid hP
    have HIB4 := Lib.hid (q6.mono ((hC.sub).trans (mask_sub _ _)))
    clear hG hall hP hC q3 q6 hW x0 x1 x2 x3 x4 x5 xf a0 a1 a2 a3 a4 a5 af z0 z1 z2 z3 z4 z5 zf HIB
    unfold put6 at HW4 HBB HIB4
    generalize ((((((W.setCell ⟨bb, 0, none⟩ (.int .i64 xb.op)).setCell ⟨bb, 1, none⟩ (.string xb.name)).setCell ⟨bb, 2, none⟩ (.slice xb.aw xb.nw xb.cw)).setCell ⟨bb, 3, none⟩ (.int .i64 xb.lo)).setCell ⟨bb, 4, none⟩ (.int .i64 xb.hi)).setCell ⟨bb, 5, none⟩ (.slice xb.aa xb.na xb.ca)) = W4 at *
    have HXW4 := Lib.hid (HX3.out.trans HW4.out)
    have HIE4 := Lib.hid (HE.out.ext HXW4.out)
    have HIX4 := Lib.hid (HXX.out.ext HXW4.out)
    have HIA4 := Lib.hid (HIA.out.ext HW4.out)
    have HO4 := Lib.hid (HO.out.ext HXW4.out)
    have HBE := Lib.hid (HW4.out.blk HBE.out)
    have HBX := Lib.hid (HW4.out.blk HBX.out)
    have HBA := Lib.hid (HW4.out.blk HBA.out)
    have HFITA := Lib.hid (okTree_fits a.size a (Nat.le_refl _) HFA.out.ok)
    have hda : a.depth ≤ 5 := HFA.out.depth
    have HVA := Lib.hid (show validB a = true by rw [validB_ref]; exact okTree_ref HFA.out.ok (by omega) (by omega))
    have hsb : b.size ≤ 1000 := HSP.out.2.2
    obtain ⟨cab, hcab⟩ : ∃ c : Bool, c = true ↔ a = b := by
      by_cases h : a = b
      · exact ⟨true, by simp [h]⟩
      · exact ⟨false, by simp [h]⟩
    obtain ⟨cex, hcex⟩ : ∃ c : Bool, c = true ↔ e = x := by
      by_cases h : e = x
      · exact ⟨true, by simp [h]⟩
      · exact ⟨false, by simp [h]⟩
    have HCAB := Lib.hid hcab
    have HCEX := Lib.hid hcex
    clear hcab hcex hbl q1 q2 q4 q5 HXW HW
    go_upto_region 5 with fail
    refine wp_region_growLG (m := 63) (n := 90) [62] (Gv5 W4) Ev5 (Rv5 (tab5 xa.val (exV e.op e.name aw nw cw e.lo e.hi aa na ca) xb.val (exV x.op x.name aw' nw' cw' x.lo x.hi ab nb cb) (validB e) (validB b) cab cex b.size b.depth e.size)) (by kernel_rfl) (by kernel_rfl) (Nat.le_of_ble_eq_true rfl) (gd5 (by kernel_rfl)) ((Ext.refl _).drew) (fun _ _ _ _ _ _ _ _ _ hR _ => hR) ?_ ?_
    · intro i o hi ho L vs W hiL hnc hG hd ρ hρ
      have hi' : i = 0 ∨ i = 1 ∨ i = 2 ∨ i = 3 ∨ i = 4 ∨ i = 5 ∨ i = 6 ∨ i = 7 ∨ i = 8 ∨ i = 9 ∨ i = 10 ∨ i = 11 ∨ i = 12 ∨ i = 13 ∨ i = 14 ∨ i = 15 ∨ i = 16 ∨ i = 17 ∨ i = 18 ∨ i = 19 ∨ i = 20 ∨ i = 21 ∨ i = 22 ∨ i = 23 ∨ i = 24 ∨ i = 25 ∨ i = 26 ∨ i = 27 ∨ i = 28 ∨ i = 29 ∨ i = 30 ∨ i = 31 ∨ i = 32 ∨ i = 33 ∨ i = 34 ∨ i = 35 ∨ i = 36 ∨ i = 37 ∨ i = 38 ∨ i = 39 ∨ i = 40 ∨ i = 41 ∨ i = 42 ∨ i = 43 ∨ i = 44 ∨ i = 45 ∨ i = 46 ∨ i = 47 ∨ i = 48 ∨ i = 49 ∨ i = 50 ∨ i = 51 ∨ i = 52 ∨ i = 53 ∨ i = 54 ∨ i = 55 ∨ i = 56 ∨ i = 57 ∨ i = 58 ∨ i = 59 ∨ i = 60 ∨ i = 61 ∨ i = 62 := by omega
      clear hi hiL hnc
      have o4 : ρ (.tmp 4) = .pointer (some ⟨w.heap.size, 0, none⟩) := hρ.out 4 rfl
      have o5 : ρ (.tmp 5) = .pointer (some ⟨w.heap.size + 1, 0, none⟩) := hρ.out 5 rfl
      have o9 : ρ (.tmp 9) = .pointer (some ⟨w2.heap.size, 0, none⟩) := hρ.out 9 rfl
      have o10 : ρ (.tmp 10) = .pointer (some ⟨bb, 0, none⟩) := hρ.out 10 rfl
      have hcs := hρ.const
      have hfn := hρ.func
      have hW : Ext W4 W := hG
      have HG := Lib.hid hW
      have hzW := hW.size
      clear hG
      rcases hi' with rfl | rfl | rfl | rfl | rfl | rfl | rfl | rfl | rfl | rfl | rfl | rfl | rfl | rfl | rfl | rfl | rfl | rfl | rfl | rfl | rfl | rfl | rfl | rfl | rfl | rfl | rfl | rfl | rfl | rfl | rfl | rfl | rfl | rfl | rfl | rfl | rfl | rfl | rfl | rfl | rfl | rfl | rfl | rfl | rfl | rfl | rfl | rfl | rfl | rfl | rfl | rfl | rfl | rfl | rfl | rfl | rfl | rfl | rfl | rfl | rfl | rfl | rfl
      · cases ho
        obtain ⟨c0, c1, c2, c3, c4, c5, cf⟩ := blk6 (hW.blk HBA.out)
        clear hρ hd
        unfold GivesOp
        go_simp
        exact ⟨Ext.refl W, HG.out, rfl⟩
      · cases ho
        have i0 := hρ.ins 0 27 (by omega) rfl (Nat.le_of_ble_eq_true rfl)
        have h0 : vs 0 = xa.val := hd ⟨0, .data⟩ (by simp) rfl
        rw [h0] at i0
        clear hρ hd
        unfold GivesOp
        go_simp
        refine (Valid_calls a _ W (HIA4.out.ext HG.out) (HO4.out.ext HG.out) HFITA.out.1).mono ?_
        rintro r W' ⟨rfl, hx⟩
        exact ⟨_, rfl, hx, HG.out.trans hx, congrArg Value.bool HVA.out⟩
      · cases ho
        have i1 := hρ.ins 1 28 (by omega) rfl (Nat.le_of_ble_eq_true rfl)
        have h1 : vs 1 = .bool true := hd ⟨1, .data⟩ (by simp) rfl
        rw [h1] at i1
        clear hρ hd
        unfold GivesOp
        go_simp
        exact ⟨Ext.refl W, HG.out, rfl⟩
      · cases ho
        obtain ⟨c0, c1, c2, c3, c4, c5, cf⟩ := blk6 (hW.blk HBE.out)
        clear hρ hd
        unfold GivesOp
        go_simp
        exact ⟨Ext.refl W, HG.out, rfl⟩
      · cases ho
        have i3 := hρ.ins 3 30 (by omega) rfl (Nat.le_of_ble_eq_true rfl)
        have h3 : vs 3 = (exV e.op e.name aw nw cw e.lo e.hi aa na ca) := hd ⟨3, .data⟩ (by simp) rfl
        rw [h3] at i3
        clear hρ hd
        unfold GivesOp
        go_simp
        refine (Valid_calls e _ W (HIE4.out.ext HG.out) (HO4.out.ext HG.out) HEF.out.1).mono ?_
        rintro r W' ⟨rfl, hx⟩
        exact ⟨_, rfl, hx, HG.out.trans hx, rfl⟩
      · cases ho
        obtain ⟨c0, c1, c2, c3, c4, c5, cf⟩ := blk6 (hW.blk HBE.out)
        clear hρ hd
        unfold GivesOp
        go_simp
        exact ⟨Ext.refl W, HG.out, rfl⟩
      · cases ho
        have i5 := hρ.ins 5 32 (by omega) rfl (Nat.le_of_ble_eq_true rfl)
        have h5 : vs 5 = (exV e.op e.name aw nw cw e.lo e.hi aa na ca) := hd ⟨5, .data⟩ (by simp) rfl
        rw [h5] at i5
        clear hρ hd
        unfold GivesOp
        go_simp
        refine (rexpr_calls e _ W (HIE4.out.ext HG.out) (by omega) HEF.out.1 HEF.out.2).mono ?_
        rintro r W' ⟨rfl, hx⟩
        exact ⟨_, rfl, hx, HG.out.trans hx, congrArg Value.bool (validB_ref e).symm⟩
      · cases ho
        have i4 := hρ.ins 4 31 (by omega) rfl (Nat.le_of_ble_eq_true rfl)
        have h4 : vs 4 = .bool (validB e) := hd ⟨4, .data⟩ (by simp) rfl
        rw [h4] at i4
        have i6 := hρ.ins 6 33 (by omega) rfl (Nat.le_of_ble_eq_true rfl)
        have h6 : vs 6 = .bool (validB e) := hd ⟨6, .data⟩ (by simp) rfl
        rw [h6] at i6
        clear hρ hd
        unfold GivesOp
        go_simp
        exact ⟨Ext.refl W, HG.out, rfl⟩
      · cases ho
        have i2 := hρ.ins 2 29 (by omega) rfl (Nat.le_of_ble_eq_true rfl)
        have h2 : vs 2 = .bool true := hd ⟨2, .data⟩ (by simp) rfl
        rw [h2] at i2
        have i7 := hρ.ins 7 34 (by omega) rfl (Nat.le_of_ble_eq_true rfl)
        have h7 : vs 7 = .bool true := hd ⟨7, .data⟩ (by simp) rfl
        rw [h7] at i7
        clear hρ hd
        unfold GivesOp
        go_simp
        exact ⟨Ext.refl W, HG.out, rfl⟩
      · cases ho
        have i8 := hρ.ins 8 35 (by omega) rfl (Nat.le_of_ble_eq_true rfl)
        have h8 : vs 8 = .bool true := hd ⟨8, .data⟩ (by simp) rfl
        rw [h8] at i8
        clear hρ hd
        unfold GivesOp
        go_simp
        exact ⟨Ext.refl W, HG.out, rfl⟩
      · cases ho
        obtain ⟨c0, c1, c2, c3, c4, c5, cf⟩ := blk6 (hW.blk HBB.out)
        clear hρ hd
        unfold GivesOp
        go_simp
        exact ⟨Ext.refl W, HG.out, rfl⟩
      · cases ho
        have i10 := hρ.ins 10 37 (by omega) rfl (Nat.le_of_ble_eq_true rfl)
        have h10 : vs 10 = xb.val := hd ⟨10, .data⟩ (by simp) rfl
        rw [h10] at i10
        clear hρ hd
        unfold GivesOp
        go_simp
        refine (Valid_calls b _ W (HIB4.out.ext HG.out) (HO4.out.ext HG.out) HSP.out.1).mono ?_
        rintro r W' ⟨rfl, hx⟩
        exact ⟨_, rfl, hx, HG.out.trans hx, rfl⟩
      · cases ho
        obtain ⟨c0, c1, c2, c3, c4, c5, cf⟩ := blk6 (hW.blk HBB.out)
        clear hρ hd
        unfold GivesOp
        go_simp
        exact ⟨Ext.refl W, HG.out, rfl⟩
      · cases ho
        have i12 := hρ.ins 12 39 (by omega) rfl (Nat.le_of_ble_eq_true rfl)
        have h12 : vs 12 = xb.val := hd ⟨12, .data⟩ (by simp) rfl
        rw [h12] at i12
        clear hρ hd
        unfold GivesOp
        go_simp
        refine (rexpr_calls b _ W (HIB4.out.ext HG.out) (by omega) HSP.out.1 HSP.out.2.1).mono ?_
        rintro r W' ⟨rfl, hx⟩
        exact ⟨_, rfl, hx, HG.out.trans hx, congrArg Value.bool (validB_ref b).symm⟩
      · cases ho
        have i11 := hρ.ins 11 38 (by omega) rfl (Nat.le_of_ble_eq_true rfl)
        have h11 : vs 11 = .bool (validB b) := hd ⟨11, .data⟩ (by simp) rfl
        rw [h11] at i11
        have i13 := hρ.ins 13 40 (by omega) rfl (Nat.le_of_ble_eq_true rfl)
        have h13 : vs 13 = .bool (validB b) := hd ⟨13, .data⟩ (by simp) rfl
        rw [h13] at i13
        clear hρ hd
        unfold GivesOp
        go_simp
        exact ⟨Ext.refl W, HG.out, rfl⟩
      · cases ho
        have i9 := hρ.ins 9 36 (by omega) rfl (Nat.le_of_ble_eq_true rfl)
        have h9 : vs 9 = .bool true := hd ⟨9, .data⟩ (by simp) rfl
        rw [h9] at i9
        have i14 := hρ.ins 14 41 (by omega) rfl (Nat.le_of_ble_eq_true rfl)
        have h14 : vs 14 = .bool true := hd ⟨14, .data⟩ (by simp) rfl
        rw [h14] at i14
        clear hρ hd
        unfold GivesOp
        go_simp
        exact ⟨Ext.refl W, HG.out, rfl⟩
      · cases ho
        have i15 := hρ.ins 15 42 (by omega) rfl (Nat.le_of_ble_eq_true rfl)
        have h15 : vs 15 = .bool true := hd ⟨15, .data⟩ (by simp) rfl
        rw [h15] at i15
        clear hρ hd
        unfold GivesOp
        go_simp
        exact ⟨Ext.refl W, HG.out, rfl⟩
      · cases ho
        obtain ⟨c0, c1, c2, c3, c4, c5, cf⟩ := blk6 (hW.blk HBB.out)
        clear hρ hd
        unfold GivesOp
        go_simp
        exact ⟨Ext.refl W, HG.out, rfl⟩
      · cases ho
        have i17 := hρ.ins 17 44 (by omega) rfl (Nat.le_of_ble_eq_true rfl)
        have h17 : vs 17 = xb.val := hd ⟨17, .data⟩ (by simp) rfl
        rw [h17] at i17
        clear hρ hd
        unfold GivesOp
        go_simp
        refine (size_calls b.size b _ W (Nat.le_refl _) (by omega) (HIB4.out.ext HG.out)).mono ?_
        rintro r W' ⟨rfl, hx⟩
        exact ⟨_, rfl, hx, HG.out.trans hx, rfl⟩
      · cases ho
        obtain ⟨c0, c1, c2, c3, c4, c5, cf⟩ := blk6 (hW.blk HBB.out)
        clear hρ hd
        unfold GivesOp
        go_simp
        exact ⟨Ext.refl W, HG.out, rfl⟩
      · cases ho
        have i19 := hρ.ins 19 46 (by omega) rfl (Nat.le_of_ble_eq_true rfl)
        have h19 : vs 19 = xb.val := hd ⟨19, .data⟩ (by simp) rfl
        rw [h19] at i19
        clear hρ hd
        unfold GivesOp
        go_simp
        refine (rall_calls b.size b _ W (Nat.le_refl _) (by omega) (HIB4.out.ext HG.out)).mono ?_
        rintro r W' ⟨rfl, hx⟩
        exact ⟨_, rfl, hx, HG.out.trans hx, rfl⟩
      · cases ho
        have i18 := hρ.ins 18 45 (by omega) rfl (Nat.le_of_ble_eq_true rfl)
        have h18 : vs 18 = .int .i64 (b.size : Int) := hd ⟨18, .data⟩ (by simp) rfl
        rw [h18] at i18
        have i20 := hρ.ins 20 47 (by omega) rfl (Nat.le_of_ble_eq_true rfl)
        have h20 : vs 20 = .int .i64 (b.size : Int) := hd ⟨20, .data⟩ (by simp) rfl
        rw [h20] at i20
        clear hρ hd
        unfold GivesOp
        go_simp
        exact ⟨Ext.refl W, HG.out, rfl⟩
      · cases ho
        have i16 := hρ.ins 16 43 (by omega) rfl (Nat.le_of_ble_eq_true rfl)
        have h16 : vs 16 = .bool true := hd ⟨16, .data⟩ (by simp) rfl
        rw [h16] at i16
        have i21 := hρ.ins 21 48 (by omega) rfl (Nat.le_of_ble_eq_true rfl)
        have h21 : vs 21 = .bool true := hd ⟨21, .data⟩ (by simp) rfl
        rw [h21] at i21
        clear hρ hd
        unfold GivesOp
        go_simp
        exact ⟨Ext.refl W, HG.out, rfl⟩
      · cases ho
        have i22 := hρ.ins 22 49 (by omega) rfl (Nat.le_of_ble_eq_true rfl)
        have h22 : vs 22 = .bool true := hd ⟨22, .data⟩ (by simp) rfl
        rw [h22] at i22
        clear hρ hd
        unfold GivesOp
        go_simp
        exact ⟨Ext.refl W, HG.out, rfl⟩
      · cases ho
        obtain ⟨c0, c1, c2, c3, c4, c5, cf⟩ := blk6 (hW.blk HBB.out)
        clear hρ hd
        unfold GivesOp
        go_simp
        exact ⟨Ext.refl W, HG.out, rfl⟩
      · cases ho
        have i24 := hρ.ins 24 51 (by omega) rfl (Nat.le_of_ble_eq_true rfl)
        have h24 : vs 24 = xb.val := hd ⟨24, .data⟩ (by simp) rfl
        rw [h24] at i24
        clear hρ hd
        unfold GivesOp
        go_simp
        refine (depth_calls b.size b _ W (Nat.le_refl _) (by omega) (HIB4.out.ext HG.out)).mono ?_
        rintro r W' ⟨rfl, hx⟩
        exact ⟨_, rfl, hx, HG.out.trans hx, rfl⟩
      · cases ho
        obtain ⟨c0, c1, c2, c3, c4, c5, cf⟩ := blk6 (hW.blk HBB.out)
        clear hρ hd
        unfold GivesOp
        go_simp
        exact ⟨Ext.refl W, HG.out, rfl⟩
      · cases ho
        have i26 := hρ.ins 26 53 (by omega) rfl (Nat.le_of_ble_eq_true rfl)
        have h26 : vs 26 = xb.val := hd ⟨26, .data⟩ (by simp) rfl
        rw [h26] at i26
        clear hρ hd
        unfold GivesOp
        go_simp
        refine (rdepth_calls b.size b _ W (Nat.le_refl _) (by omega) (HIB4.out.ext HG.out)).mono ?_
        rintro r W' ⟨rfl, hx⟩
        exact ⟨_, rfl, hx, HG.out.trans hx, rfl⟩
      · cases ho
        have i25 := hρ.ins 25 52 (by omega) rfl (Nat.le_of_ble_eq_true rfl)
        have h25 : vs 25 = .int .i64 (b.depth : Int) := hd ⟨25, .data⟩ (by simp) rfl
        rw [h25] at i25
        have i27 := hρ.ins 27 54 (by omega) rfl (Nat.le_of_ble_eq_true rfl)
        have h27 : vs 27 = .int .i64 (b.depth : Int) := hd ⟨27, .data⟩ (by simp) rfl
        rw [h27] at i27
        clear hρ hd
        unfold GivesOp
        go_simp
        exact ⟨Ext.refl W, HG.out, rfl⟩
      · cases ho
        have i23 := hρ.ins 23 50 (by omega) rfl (Nat.le_of_ble_eq_true rfl)
        have h23 : vs 23 = .bool true := hd ⟨23, .data⟩ (by simp) rfl
        rw [h23] at i23
        have i28 := hρ.ins 28 55 (by omega) rfl (Nat.le_of_ble_eq_true rfl)
        have h28 : vs 28 = .bool true := hd ⟨28, .data⟩ (by simp) rfl
        rw [h28] at i28
        clear hρ hd
        unfold GivesOp
        go_simp
        exact ⟨Ext.refl W, HG.out, rfl⟩
      · cases ho
        have i29 := hρ.ins 29 56 (by omega) rfl (Nat.le_of_ble_eq_true rfl)
        have h29 : vs 29 = .bool true := hd ⟨29, .data⟩ (by simp) rfl
        rw [h29] at i29
        clear hρ hd
        unfold GivesOp
        go_simp
        exact ⟨Ext.refl W, HG.out, rfl⟩
      · cases ho
        obtain ⟨c0, c1, c2, c3, c4, c5, cf⟩ := blk6 (hW.blk HBE.out)
        clear hρ hd
        unfold GivesOp
        go_simp
        exact ⟨Ext.refl W, HG.out, rfl⟩
      · cases ho
        have i31 := hρ.ins 31 58 (by omega) rfl (Nat.le_of_ble_eq_true rfl)
        have h31 : vs 31 = (exV e.op e.name aw nw cw e.lo e.hi aa na ca) := hd ⟨31, .data⟩ (by simp) rfl
        rw [h31] at i31
        clear hρ hd
        unfold GivesOp
        go_simp
        refine (size_calls e.size e _ W (Nat.le_refl _) (by omega) (HIE4.out.ext HG.out)).mono ?_
        rintro r W' ⟨rfl, hx⟩
        exact ⟨_, rfl, hx, HG.out.trans hx, rfl⟩
      · cases ho
        obtain ⟨c0, c1, c2, c3, c4, c5, cf⟩ := blk6 (hW.blk HBE.out)
        clear hρ hd
        unfold GivesOp
        go_simp
        exact ⟨Ext.refl W, HG.out, rfl⟩
      · cases ho
        have i33 := hρ.ins 33 60 (by omega) rfl (Nat.le_of_ble_eq_true rfl)
        have h33 : vs 33 = (exV e.op e.name aw nw cw e.lo e.hi aa na ca) := hd ⟨33, .data⟩ (by simp) rfl
        rw [h33] at i33
        clear hρ hd
        unfold GivesOp
        go_simp
        refine (rall_calls e.size e _ W (Nat.le_refl _) (by omega) (HIE4.out.ext HG.out)).mono ?_
        rintro r W' ⟨rfl, hx⟩
        exact ⟨_, rfl, hx, HG.out.trans hx, rfl⟩
      · cases ho
        have i32 := hρ.ins 32 59 (by omega) rfl (Nat.le_of_ble_eq_true rfl)
        have h32 : vs 32 = .int .i64 (e.size : Int) := hd ⟨32, .data⟩ (by simp) rfl
        rw [h32] at i32
        have i34 := hρ.ins 34 61 (by omega) rfl (Nat.le_of_ble_eq_true rfl)
        have h34 : vs 34 = .int .i64 (e.size : Int) := hd ⟨34, .data⟩ (by simp) rfl
        rw [h34] at i34
        clear hρ hd
        unfold GivesOp
        go_simp
        exact ⟨Ext.refl W, HG.out, rfl⟩
      · cases ho
        have i30 := hρ.ins 30 57 (by omega) rfl (Nat.le_of_ble_eq_true rfl)
        have h30 : vs 30 = .bool true := hd ⟨30, .data⟩ (by simp) rfl
        rw [h30] at i30
        have i35 := hρ.ins 35 62 (by omega) rfl (Nat.le_of_ble_eq_true rfl)
        have h35 : vs 35 = .bool true := hd ⟨35, .data⟩ (by simp) rfl
        rw [h35] at i35
        clear hρ hd
        unfold GivesOp
        go_simp
        exact ⟨Ext.refl W, HG.out, rfl⟩
      · cases ho
        have i36 := hρ.ins 36 63 (by omega) rfl (Nat.le_of_ble_eq_true rfl)
        have h36 : vs 36 = .bool true := hd ⟨36, .data⟩ (by simp) rfl
        rw [h36] at i36
        clear hρ hd
        unfold GivesOp
        go_simp
        exact ⟨Ext.refl W, HG.out, rfl⟩
      · cases ho
        obtain ⟨c0, c1, c2, c3, c4, c5, cf⟩ := blk6 (hW.blk HBA.out)
        clear hρ hd
        unfold GivesOp
        go_simp
        exact ⟨Ext.refl W, HG.out, rfl⟩
      · cases ho
        obtain ⟨c0, c1, c2, c3, c4, c5, cf⟩ := blk6 (hW.blk HBA.out)
        clear hρ hd
        unfold GivesOp
        go_simp
        exact ⟨Ext.refl W, HG.out, rfl⟩
      · cases ho
        have i38 := hρ.ins 38 65 (by omega) rfl (Nat.le_of_ble_eq_true rfl)
        have h38 : vs 38 = xa.val := hd ⟨38, .data⟩ (by simp) rfl
        rw [h38] at i38
        have i39 := hρ.ins 39 66 (by omega) rfl (Nat.le_of_ble_eq_true rfl)
        have h39 : vs 39 = xa.val := hd ⟨39, .data⟩ (by simp) rfl
        rw [h39] at i39
        clear hρ hd
        unfold GivesOp
        go_simp
        refine (same_calls a.size (by omega) a a _ _ W (Nat.le_refl _) (HIA4.out.ext HG.out) (HIA4.out.ext HG.out) HFITA.out.2).mono ?_
        rintro r W' ⟨Bq, rfl, hB, hx⟩
        exact ⟨_, rfl, hx, HG.out.trans hx, congrArg Value.bool (hB.2 (by simp))⟩
      · cases ho
        have i37 := hρ.ins 37 64 (by omega) rfl (Nat.le_of_ble_eq_true rfl)
        have h37 : vs 37 = .bool true := hd ⟨37, .data⟩ (by simp) rfl
        rw [h37] at i37
        have i40 := hρ.ins 40 67 (by omega) rfl (Nat.le_of_ble_eq_true rfl)
        have h40 : vs 40 = .bool true := hd ⟨40, .data⟩ (by simp) rfl
        rw [h40] at i40
        clear hρ hd
        unfold GivesOp
        go_simp
        exact ⟨Ext.refl W, HG.out, rfl⟩
      · cases ho
        have i41 := hρ.ins 41 68 (by omega) rfl (Nat.le_of_ble_eq_true rfl)
        have h41 : vs 41 = .bool true := hd ⟨41, .data⟩ (by simp) rfl
        rw [h41] at i41
        clear hρ hd
        unfold GivesOp
        go_simp
        exact ⟨Ext.refl W, HG.out, rfl⟩
      · cases ho
        obtain ⟨c0, c1, c2, c3, c4, c5, cf⟩ := blk6 (hW.blk HBA.out)
        clear hρ hd
        unfold GivesOp
        go_simp
        exact ⟨Ext.refl W, HG.out, rfl⟩
      · cases ho
        obtain ⟨c0, c1, c2, c3, c4, c5, cf⟩ := blk6 (hW.blk HBB.out)
        clear hρ hd
        unfold GivesOp
        go_simp
        exact ⟨Ext.refl W, HG.out, rfl⟩
      · cases ho
        have i43 := hρ.ins 43 70 (by omega) rfl (Nat.le_of_ble_eq_true rfl)
        have h43 : vs 43 = xa.val := hd ⟨43, .data⟩ (by simp) rfl
        rw [h43] at i43
        have i44 := hρ.ins 44 71 (by omega) rfl (Nat.le_of_ble_eq_true rfl)
        have h44 : vs 44 = xb.val := hd ⟨44, .data⟩ (by simp) rfl
        rw [h44] at i44
        clear hρ hd
        unfold GivesOp
        go_simp
        refine (same_calls a.size (by omega) a b _ _ W (Nat.le_refl _) (HIA4.out.ext HG.out) (HIB4.out.ext HG.out) HFITA.out.2).mono ?_
        rintro r W' ⟨Bq, rfl, hB, hx⟩
        exact ⟨_, rfl, hx, HG.out.trans hx, congrArg Value.bool (bool_of_iff hB HCAB.out)⟩
      · cases ho
        obtain ⟨c0, c1, c2, c3, c4, c5, cf⟩ := blk6 (hW.blk HBA.out)
        clear hρ hd
        unfold GivesOp
        go_simp
        exact ⟨Ext.refl W, HG.out, rfl⟩
      · cases ho
        obtain ⟨c0, c1, c2, c3, c4, c5, cf⟩ := blk6 (hW.blk HBB.out)
        clear hρ hd
        unfold GivesOp
        go_simp
        exact ⟨Ext.refl W, HG.out, rfl⟩
      · cases ho
        have i46 := hρ.ins 46 73 (by omega) rfl (Nat.le_of_ble_eq_true rfl)
        have h46 : vs 46 = xa.val := hd ⟨46, .data⟩ (by simp) rfl
        rw [h46] at i46
        have i47 := hρ.ins 47 74 (by omega) rfl (Nat.le_of_ble_eq_true rfl)
        have h47 : vs 47 = xb.val := hd ⟨47, .data⟩ (by simp) rfl
        rw [h47] at i47
        clear hρ hd
        unfold GivesOp
        go_simp
        refine (rsame_calls a.size a b _ _ W (Nat.le_refl _) (by omega) (HIA4.out.ext HG.out) (HIB4.out.ext HG.out) HFITA.out.2).mono ?_
        rintro r W' ⟨Bq, rfl, hB, hx⟩
        exact ⟨_, rfl, hx, HG.out.trans hx, congrArg Value.bool (bool_of_iff hB HCAB.out)⟩
      · cases ho
        have i45 := hρ.ins 45 72 (by omega) rfl (Nat.le_of_ble_eq_true rfl)
        have h45 : vs 45 = .bool cab := hd ⟨45, .data⟩ (by simp) rfl
        rw [h45] at i45
        have i48 := hρ.ins 48 75 (by omega) rfl (Nat.le_of_ble_eq_true rfl)
        have h48 : vs 48 = .bool cab := hd ⟨48, .data⟩ (by simp) rfl
        rw [h48] at i48
        clear hρ hd
        unfold GivesOp
        go_simp
        exact ⟨Ext.refl W, HG.out, rfl⟩
      · cases ho
        have i42 := hρ.ins 42 69 (by omega) rfl (Nat.le_of_ble_eq_true rfl)
        have h42 : vs 42 = .bool true := hd ⟨42, .data⟩ (by simp) rfl
        rw [h42] at i42
        have i49 := hρ.ins 49 76 (by omega) rfl (Nat.le_of_ble_eq_true rfl)
        have h49 : vs 49 = .bool true := hd ⟨49, .data⟩ (by simp) rfl
        rw [h49] at i49
        clear hρ hd
        unfold GivesOp
        go_simp
        exact ⟨Ext.refl W, HG.out, rfl⟩
      · cases ho
        have i50 := hρ.ins 50 77 (by omega) rfl (Nat.le_of_ble_eq_true rfl)
        have h50 : vs 50 = .bool true := hd ⟨50, .data⟩ (by simp) rfl
        rw [h50] at i50
        clear hρ hd
        unfold GivesOp
        go_simp
        exact ⟨Ext.refl W, HG.out, rfl⟩
      · cases ho
        obtain ⟨c0, c1, c2, c3, c4, c5, cf⟩ := blk6 (hW.blk HBE.out)
        clear hρ hd
        unfold GivesOp
        go_simp
        exact ⟨Ext.refl W, HG.out, rfl⟩
      · cases ho
        obtain ⟨c0, c1, c2, c3, c4, c5, cf⟩ := blk6 (hW.blk HBX.out)
        clear hρ hd
        unfold GivesOp
        go_simp
        exact ⟨Ext.refl W, HG.out, rfl⟩
      · cases ho
        have i52 := hρ.ins 52 79 (by omega) rfl (Nat.le_of_ble_eq_true rfl)
        have h52 : vs 52 = (exV e.op e.name aw nw cw e.lo e.hi aa na ca) := hd ⟨52, .data⟩ (by simp) rfl
        rw [h52] at i52
        have i53 := hρ.ins 53 80 (by omega) rfl (Nat.le_of_ble_eq_true rfl)
        have h53 : vs 53 = (exV x.op x.name aw' nw' cw' x.lo x.hi ab nb cb) := hd ⟨53, .data⟩ (by simp) rfl
        rw [h53] at i53
        clear hρ hd
        unfold GivesOp
        go_simp
        refine (same_calls e.size (by omega) e x _ _ W (Nat.le_refl _) (HIE4.out.ext HG.out) (HIX4.out.ext HG.out) HEF.out.2).mono ?_
        rintro r W' ⟨Bq, rfl, hB, hx⟩
        exact ⟨_, rfl, hx, HG.out.trans hx, congrArg Value.bool (bool_of_iff hB HCEX.out)⟩
      · cases ho
        obtain ⟨c0, c1, c2, c3, c4, c5, cf⟩ := blk6 (hW.blk HBE.out)
        clear hρ hd
        unfold GivesOp
        go_simp
        exact ⟨Ext.refl W, HG.out, rfl⟩
      · cases ho
        obtain ⟨c0, c1, c2, c3, c4, c5, cf⟩ := blk6 (hW.blk HBX.out)
        clear hρ hd
        unfold GivesOp
        go_simp
        exact ⟨Ext.refl W, HG.out, rfl⟩
      · cases ho
        have i55 := hρ.ins 55 82 (by omega) rfl (Nat.le_of_ble_eq_true rfl)
        have h55 : vs 55 = (exV e.op e.name aw nw cw e.lo e.hi aa na ca) := hd ⟨55, .data⟩ (by simp) rfl
        rw [h55] at i55
        have i56 := hρ.ins 56 83 (by omega) rfl (Nat.le_of_ble_eq_true rfl)
        have h56 : vs 56 = (exV x.op x.name aw' nw' cw' x.lo x.hi ab nb cb) := hd ⟨56, .data⟩ (by simp) rfl
        rw [h56] at i56
        clear hρ hd
        unfold GivesOp
        go_simp
        refine (rsame_calls e.size e x _ _ W (Nat.le_refl _) (by omega) (HIE4.out.ext HG.out) (HIX4.out.ext HG.out) HEF.out.2).mono ?_
        rintro r W' ⟨Bq, rfl, hB, hx⟩
        exact ⟨_, rfl, hx, HG.out.trans hx, congrArg Value.bool (bool_of_iff hB HCEX.out)⟩
      · cases ho
        have i54 := hρ.ins 54 81 (by omega) rfl (Nat.le_of_ble_eq_true rfl)
        have h54 : vs 54 = .bool cex := hd ⟨54, .data⟩ (by simp) rfl
        rw [h54] at i54
        have i57 := hρ.ins 57 84 (by omega) rfl (Nat.le_of_ble_eq_true rfl)
        have h57 : vs 57 = .bool cex := hd ⟨57, .data⟩ (by simp) rfl
        rw [h57] at i57
        clear hρ hd
        unfold GivesOp
        go_simp
        exact ⟨Ext.refl W, HG.out, rfl⟩
      · cases ho
        have i51 := hρ.ins 51 78 (by omega) rfl (Nat.le_of_ble_eq_true rfl)
        have h51 : vs 51 = .bool true := hd ⟨51, .data⟩ (by simp) rfl
        rw [h51] at i51
        have i58 := hρ.ins 58 85 (by omega) rfl (Nat.le_of_ble_eq_true rfl)
        have h58 : vs 58 = .bool true := hd ⟨58, .data⟩ (by simp) rfl
        rw [h58] at i58
        clear hρ hd
        unfold GivesOp
        go_simp
        exact ⟨Ext.refl W, HG.out, rfl⟩
      · cases ho
        have i59 := hρ.ins 59 86 (by omega) rfl (Nat.le_of_ble_eq_true rfl)
        have h59 : vs 59 = .bool true := hd ⟨59, .data⟩ (by simp) rfl
        rw [h59] at i59
        clear hρ hd
        unfold GivesOp
        go_simp
        exact ⟨Ext.refl W, HG.out, rfl⟩
      · cases ho
        clear hρ hd
        unfold GivesOp
        go_simp
        refine (awake_calls W (HO4.out.ext HG.out)).mono ?_
        rintro r W' ⟨rfl, hx⟩
        exact ⟨_, rfl, hx, HG.out.trans hx, rfl⟩
      · cases ho
        have i60 := hρ.ins 60 87 (by omega) rfl (Nat.le_of_ble_eq_true rfl)
        have h60 : vs 60 = .bool true := hd ⟨60, .data⟩ (by simp) rfl
        rw [h60] at i60
        have i61 := hρ.ins 61 88 (by omega) rfl (Nat.le_of_ble_eq_true rfl)
        have h61 : vs 61 = .bool true := hd ⟨61, .data⟩ (by simp) rfl
        rw [h61] at i61
        clear hρ hd
        unfold GivesOp
        go_simp
        exact ⟨Ext.refl W, HG.out, rfl⟩
    · intro L vs W _ hG hR
      rw [if_neg (by decide +kernel)]
      have r62 : vs 62 = .bool true := hR 62 (by simp) (by omega)
      have hW : Ext W4 W := hG
      have HFIN := Lib.hid (HXW4.out.trans hW)
      clear hG hR hW
      unfold wpOp
      simp only [acts, dstAt, List.range, List.range.loop, List.foldl_cons, List.foldl_nil, r62]
      go_simp
      refine Or.inl ?_
      go_wp2_with fail
      go_ret
      exact ⟨rfl, HFIN.out⟩
end Go.Proofs.YtaepiiediblleaaDoor
