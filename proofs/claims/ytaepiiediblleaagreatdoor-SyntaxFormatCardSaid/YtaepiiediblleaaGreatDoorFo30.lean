/-
  Texts of the claim, joined: Small, Awake, FmtLaw, ExArg.
-/
import Derived.Test.YtaepiiediblleaaGreatDoorFo11
import Derived.Test.YtaepiiediblleaaGreatDoorFo14
import Derived.Test.YtaepiiediblleaaGreatDoorFo02
import Derived.Test.YtaepiiediblleaaGreatDoorFo27
import Derived.Test.YtaepiiediblleaaGreatDoorFo29
import Derived.Test.YtaepiiediblleaaGreatDoorFo17
import Derived.Deep.DeepCutAuto
import Derived.Deep.LoopGhost
import Derived.Test.YtaepiiediblleaaGreatDoorFo06
import Derived.SliceStrings
namespace Go.Proofs.YtaepiiediblleaaGreatDoor
open Go.RowKit

theorem small_calls (e : Ex) (v : Value) (w : World) (he : IsEx w e v) : Calls Tryz.prog 14 #[v] w (GivesE (.bool (decide (refSize e ≤ 300))) w) := by
  obtain ⟨aw, nw, cw, aa, na, ca, rfl, hw, hna, hca, ha, hx⟩ := he.parts
  have HX := Lib.hid ((Ext.refl w).alloc (.cells #[.int .i64 e.op, .string e.name, .slice aw nw cw, .int .i64 e.lo, .int .i64 e.hi, .slice aa na ca] 28))
  have HC := Lib.hid (rsize_calls e.size e _ _ (Nat.le_refl _) (he.ext HX.out))
  clear hw hna hca ha hx he
  unfold exV at *
  go_enter Tryz.func14, Tryz.ntmps14
  go_wp2_with fail
  refine HC.out.mono ?_
  rintro r w1 ⟨rfl, hx1⟩
  have HX1 := Lib.hid (HX.out.trans hx1)
  clear hx1
  generalize refSize e = N at *
  go_wp2_with fail
  all_goals (go_ret; exact givesE_bool (by rw [Bool.eq_iff_iff]; simp; try omega) HX1.out)

end Go.Proofs.YtaepiiediblleaaGreatDoor

namespace Go.Proofs.YtaepiiediblleaaGreatDoor
open Go.RowKit

def nm (c : UInt8) : Ex := .mk 3 ⟨#[c]⟩ [] 0 0 []
def awakeText : ByteArray := ⟨#[97, 32, 111, 114, 32, 98, 32, 97, 110, 100, 32, 110, 111, 116, 32, 99]⟩
def awakeToks : List Tok := [⟨1, ⟨#[97]⟩, 0, 0⟩, ⟨1, ⟨#[111, 114]⟩, 0, 2⟩, ⟨1, ⟨#[98]⟩, 0, 5⟩, ⟨1, ⟨#[97, 110, 100]⟩, 0, 7⟩, ⟨1, ⟨#[110, 111, 116]⟩, 0, 11⟩, ⟨1, ⟨#[99]⟩, 0, 15⟩]
def awakeEx : Ex := .mk 8 ⟨#[]⟩ [] 0 0 [nm 97, .mk 7 ⟨#[]⟩ [] 0 0 [nm 98, .mk 6 ⟨#[]⟩ [] 0 0 [nm 99]]]
theorem awake_scan : scanAll awakeText = (awakeToks, 0, 0) := by kernel_rfl
theorem awake_tokens : tokensF awakeToks 0 = (awakeEx, (awakeToks.length : Int), 0, 0) := by kernel_rfl
theorem awake_64 : ∀ i, i < awakeText.size → byteAt awakeText i ≠ 64 := by
  have h : (List.range 16).all (fun i => byteAt awakeText i != 64) = true := by decide +kernel
  intro i hi
  have := List.all_eq_true.1 h i (by rw [List.mem_range]; exact hi)
  simpa using this
theorem awake_parse (w : World) (ho : HasOps w) (M : List Nat) (hM : ∀ y ∈ M, y < w.heap.size) : Calls Tryz.prog 18 #[.string awakeText] w (ParseQ awakeEx 0 M w) :=
  Parse_ok awakeText awakeToks awakeEx w ho (by decide) awake_64 awake_scan (by decide) (fun t ht => by
    have h : awakeToks.all (fun t => decide (t.text.size ≤ 1000000000000000)) = true := by decide +kernel
    simpa using List.all_eq_true.1 h t ht) awake_tokens M hM

set_option maxRecDepth 100000 in
set_option maxHeartbeats 1000000 in
theorem awake_calls (w : World) (ho : HasOps w) : Calls Tryz.prog 6 #[] w (GivesE (.bool true) w) := by
  have HP := Lib.hid (awake_parse w ho [] (by simp))
  unfold awakeText at HP
  clear ho
  go_enter Tryz.func6, Tryz.ntmps6
  go_wp2_with fail
  refine HP.out.mono ?_
  rintro r w1 ⟨x, off, rfl, hx, h0, hE⟩
  obtain rfl := h0 rfl
  have hx' := hx.mono (mask_sub _ _)
  have HX := Lib.hid hx'
  obtain ⟨aw, nw, cw, aa, na, ca, e1, g1, g2, g3, g4, g5⟩ := hx'.parts
  rw [e1] at HX ⊢
  have hna : na = 2 := g2
  subst hna
  obtain ⟨b, o, ea, aw0, nw0, cw0, aa0, na0, ca0, p0, p1, p2, p3, p4, p5, p6⟩ := ExsD.at _ _ g5 0 (by decide)
  subst ea
  obtain ⟨b', o', ea, aw1, nw1, cw1, aa1, na1, ca1, q0, q1, q2, q3, q4, q5, q6⟩ := ExsD.at _ _ g5 1 (by decide)
  obtain ⟨rfl, rfl⟩ : b' = b ∧ o' = o := by simpa using ea.symm
  have hb := block_lt p1
  simp only [Nat.zero_mul, Nat.one_mul, Nat.add_zero] at p0 p1 p2 p3 p4 p5 q0 q1 q2 q3 q4 q5
  have p1' : w1.cell? ⟨b', o' + 1, none⟩ = some (.string ⟨#[97]⟩) := p1
  have q0' : w1.cell? ⟨b', o' + 6, none⟩ = some (.int .i64 7) := q0
  have HE := Lib.hid hE
  simp only at hb
  have hb2 : b' ≠ w1.heap.size := by omega
  clear hx hx' e1 g1 g2 g3 g4 g5 p0 p1 p2 p3 p4 p5 p6 q0 q1 q2 q3 q4 q5 q6 ea hE h0
  unfold exV awakeEx at *
  simp only [Ex.op, Ex.name, Ex.lo, Ex.hi] at *
  have HSZ := Lib.hid (size_calls 6 awakeEx _ _ (by decide +kernel) (by omega) (HX.out.ext ((Ext.refl w1).alloc (.cells #[.int .i64 8, .string ⟨#[]⟩, .slice aw nw cw, .int .i64 0, .int .i64 0, .slice (some ⟨b', o', none⟩) 2 ca] 28))))
  go_wp2_with fail
  refine HSZ.out.mono ?_
  rintro r w2 ⟨rfl, hx2⟩
  have hE2 := Lib.hid (HE.out.trans (((Ext.refl w1).alloc _).trans hx2))
  clear hx2
  rw [show awakeEx.size = 6 by decide +kernel]
  go_wp2_with fail
  go_ret
  exact ⟨rfl, hE2.out⟩
end Go.Proofs.YtaepiiediblleaaGreatDoor

namespace Go.Proofs.YtaepiiediblleaaGreatDoor
open Go.RowKit

theorem lexpr_fineM (la : Option Addr) (ln lc : Nat) (w : World) (hi : IntsAt w la ln) (hl : ln ≤ 1000000000000000) (M : List Nat) (hM : ∀ y ∈ M, y < w.heap.size) :
    Calls Tryz.prog 11 #[.slice la ln lc] w (fun e w' => ∃ (x : Ex) (v : ExV), e = .returned v.val ∧ Fine 4 x ∧ IsEx (mask w' M) x v.val ∧ Ext w w') := by
  refine (lexpr_calls la ln lc w hi hl M hM).mono ?_
  rintro e w' ⟨x, v, attrs, rfl, hat, hm, hix, hx⟩
  exact ⟨x, v, rfl, made_fine hat 4 x hm, hix, hx⟩
theorem sub_above {w W : World} {N : List Nat} (h : Ext w W) (hn : ∀ y ∈ N, w.heap.size ≤ y) : Sub w (mask W N) := fun q v hp => by
  rw [mask_cell, if_neg (fun hm => by have := hn _ hm; have := block_lt hp; omega)]
  exact h.cell hp
theorem sub_over {w W : World} {N M : List Nat} (h : Ext w W) (hn : ∀ y ∈ N, w.heap.size ≤ y) : Sub (mask w M) (mask W (N ++ M)) :=
  mask_sub_mask fun k hk hm => ⟨fun h' => by
    rcases List.mem_append.1 h' with h' | h'
    · have := hn _ h'; omega
    · exact hm h', h.block k hk⟩
/-- What is known of an expression that is looked at. -/
def SpB (b : Ex) : Prop := b.fits ∧ b.few ∧ b.size ≤ 1000

def Gf (W4 : World) (B : Nat) (L : List Nat) (vs : Nat → Value) (W : World) : Prop := Ext W4 W ∧ (4 ∈ L → ∃ b xb, vs 4 = ExV.val xb ∧ SpB b ∧ IsEx (mask W [B]) b xb.val)
def Ef (k : Nat) (W W' : World) : Prop := k = 4 ∨ Ext W W'
def Rf (W3 : World) (xa xv : Value) (l : Option Addr) (n c : Nat) : Nat → Value → World → Prop
  | 0, u, _ => u = xa
  | 1, u, _ => u = .slice l n c
  | 2, u, W => ∃ bd w0, u = .pointer (some ⟨bd, 0, none⟩) ∧ DeckAt w0 W bd ∧ W3.heap.size ≤ bd
  | 3, u, _ => u = xv
  | _, _, _ => True
theorem rf_keeps {ops : Array Oper} {W3 : World} {xa xv : Value} {l : Option Addr} {n c : Nat} (hq : outlastsG ops 5 [] 2 4 = false) : ∀ i k u W W', i < 5 → k < 5 → i ≠ k → outlastsG ops 5 [] i k = true → Rf W3 xa xv l n c i u W → Ef k W W' → Rf W3 xa xv l n c i u W' := by
  intro i k u W W' hi hk hne ho hR hE
  have hi' : i = 0 ∨ i = 1 ∨ i = 2 ∨ i = 3 ∨ i = 4 := by omega
  rcases hi' with rfl | rfl | rfl | rfl | rfl
  case inr.inr.inl =>
    rcases hE with rfl | hE
    · rw [hq] at ho; cases ho
    · obtain ⟨bd, w0, h1, h2, h3⟩ := hR
      exact ⟨bd, w0, h1, h2.ext hE, h3⟩
  all_goals exact hR
theorem gf_plain {W4 : World} {B : Nat} {L : List Nat} {vs : Nat → Value} {W W' : World} (h : Gf W4 B L vs W) (hx : Ext W W') {i : Nat} (h4 : i ≠ 4) (v : Value) : Gf W4 B (L ++ [i]) (upd vs i v) W' := by
  have m4 : 4 ∈ L ++ [i] → 4 ∈ L := fun h => by simp at h; rcases h with h | h; exact h; omega
  have e4 : upd vs i v 4 = vs 4 := by unfold upd; rw [if_neg (fun h => h4 h.symm)]
  unfold Gf
  rw [e4]
  refine ⟨h.1.trans hx, fun hm => ?_⟩
  obtain ⟨b, xb, q1, q2, q3⟩ := h.2 (m4 hm)
  exact ⟨b, xb, q1, q2, q3.mono (mask_ext _ hx)⟩

set_option maxRecDepth 100000 in
set_option maxHeartbeats 4000000 in
theorem fmtLaw_calls (e x : Ex) (ev xv : Value) (l1 l2 : Option Addr) (n1 q1 n2 q2 : Nat) (w : World) (ho : HasOps w) (htab : HasTab w) (he : IsEx w e ev) (hx : IsEx w x xv) (hef : e.fits) (hew : e.few) (hxf : x.fits) (hxw : x.few) (h1 : IntsAt w l1 n1) (h2 : IntsAt w l2 n2) (g1 : n1 ≤ 1000000000000000) (g2 : n2 ≤ 1000000000000000) :
    Calls Tryz.prog 4 #[ev, xv, .slice l1 n1 q1, .slice l2 n2 q2] w (GivesE (.bool true) w) := by
  obtain ⟨aw, nw, cw, aa, na, ca, rfl, -, -, -, -, -⟩ := he.parts
  obtain ⟨aw', nw', cw', ab, nb, cb, rfl, -, -, -, -, -⟩ := hx.parts
  have HO := Lib.hid ho
  have HE := Lib.hid he
  have HXX := Lib.hid hx
  have HEF := Lib.hid (And.intro hef hew)
  have HXF := Lib.hid (And.intro hxf hxw)
  have H1 := Lib.hid h1
  have H2 := Lib.hid h2
  have HE2 := Lib.hid (((Ext.refl w).alloc (.cells #[.int .i64 e.op, .string e.name, .slice aw nw cw, .int .i64 e.lo, .int .i64 e.hi, .slice aa na ca] 28)).alloc (.cells #[.int .i64 x.op, .string x.name, .slice aw' nw' cw', .int .i64 x.lo, .int .i64 x.hi, .slice ab nb cb] 28))
  have HBE := Lib.hid (blk_alloc (o' := .cells #[.int .i64 x.op, .string x.name, .slice aw' nw' cw', .int .i64 x.lo, .int .i64 x.hi, .slice ab nb cb] 28) (alloc_new w (.cells #[.int .i64 e.op, .string e.name, .slice aw nw cw, .int .i64 e.lo, .int .i64 e.hi, .slice aa na ca] 28)))
  have HBX := Lib.hid (alloc_at (w := w.alloc (.cells #[.int .i64 e.op, .string e.name, .slice aw nw cw, .int .i64 e.lo, .int .i64 e.hi, .slice aa na ca] 28)) (o := .cells #[.int .i64 x.op, .string x.name, .slice aw' nw' cw', .int .i64 x.lo, .int .i64 x.hi, .slice ab nb cb] 28) (n := w.heap.size + 1) (by simp))
  have HTB := Lib.hid htab
  clear ho he hx hef hew hxf hxw h1 h2 htab
  unfold exV at *
  go_enter Tryz.func4, Tryz.ntmps4
  go_upto_region 1 with fail
  generalize (w.alloc (.cells #[.int .i64 e.op, .string e.name, .slice aw nw cw, .int .i64 e.lo, .int .i64 e.hi, .slice aa na ca] 28)).alloc (.cells #[.int .i64 x.op, .string x.name, .slice aw' nw' cw', .int .i64 x.lo, .int .i64 x.hi, .slice ab nb cb] 28) = wb at *
  obtain ⟨b0, b1, b2, b3, b4, b5, bf⟩ := blk6 HBE.out
  have hlb := blk_lt HBE.out
  go_cut [21] (fun s21 wx => s21 = .bool (!decide (refSize e ≤ 300) || !decide (refSize x ≤ 300)) ∧ Ext wb wx)
  case first =>
    have HSE := Lib.hid (small_calls e _ wb (HE.out.ext HE2.out))
    have HSX := Lib.hid (fun (W : World) (hW : Ext wb W) => small_calls x _ W (HXX.out.ext (HE2.out.trans hW)))
    cases ce : decide (refSize e ≤ 300)
    case false =>
      rw [ce] at HSE
      go_wp2_with fail
      refine HSE.out.mono ?_
      rintro r w1 ⟨rfl, hx1⟩
      have HX1 := Lib.hid hx1
      clear hx1
      go_wp2_with fail
      go_meet
      case rel => exact ⟨by rw [ce]; rfl, HX1.out⟩
    case true =>
    rw [ce] at HSE
    go_wp2_with fail
    refine HSE.out.mono ?_
    rintro r w1 ⟨rfl, hx1⟩
    have HX1 := Lib.hid hx1
    have HBX1 := Lib.hid (hx1.blk HBX.out)
    clear hx1 b0 b1 b2 b3 b4 b5 bf hlb
    obtain ⟨b0, b1, b2, b3, b4, b5, bf⟩ := blk6 HBX1.out
    have hlb := blk_lt HBX1.out
    go_wp2_with fail
    refine (HSX.out _ HX1.out).mono ?_
    rintro r w2 ⟨rfl, hx2⟩
    have HX2 := Lib.hid (HX1.out.trans hx2)
    clear hx2 b0 b1 b2 b3 b4 b5 bf hlb
    go_wp2_with fail
    go_meet
    case rel => exact ⟨by rw [ce]; rfl, HX2.out⟩
  case rest =>
  obtain ⟨rfl, hxc⟩ := hcut
  have HXC := Lib.hid (HE2.out.trans hxc)
  have HBE := Lib.hid (hxc.blk HBE.out)
  have HBX := Lib.hid (hxc.blk HBX.out)
  clear hxc b0 b1 b2 b3 b4 b5 bf hlb
  by_cases hsm : refSize e ≤ 300 ∧ refSize x ≤ 300
  case neg =>
    have t1 : (!decide (refSize e ≤ 300) || !decide (refSize x ≤ 300)) = true := by
      by_cases h : refSize e ≤ 300
      · have h2 : ¬ refSize x ≤ 300 := fun h2 => hsm ⟨h, h2⟩
        simp [h2]
      · simp [h]
    rw [t1]
    clear hsm t1
    go_wp2_with fail
    refine (awake_calls _ (HO.out.ext HXC.out)).mono ?_
    rintro r w2 ⟨rfl, hx2⟩
    go_wp2_with fail
    go_ret
    exact ⟨rfl, HXC.out.trans hx2⟩
  case pos =>
  have t1 : (!decide (refSize e ≤ 300) || !decide (refSize x ≤ 300)) = false := by simp [hsm]
  have hse : e.size ≤ 300 := by have := hsm.1; unfold refSize at this; omega
  have hsx : x.size ≤ 300 := by have := hsm.2; unfold refSize at this; omega
  rw [t1]
  clear hsm t1
  go_wp2_with fail
  go_loopg [9] 3 (fun g i wr => ∃ (k : Nat) (a : Ex) (xe : ExV), k ≤ 3 ∧ g = 3 - k ∧ i = .int .i64 k ∧ SpB a ∧ IsEx (mask wr [w.heap.size]) a xe.val ∧ wr.heap[w.heap.size]? = some (.cells xe.cells.toArray 28 (0, 0)) ∧ wr.heap[w.heap.size + 1]? = some (.cells #[.int .i64 x.op, .string x.name, .slice aw' nw' cw', .int .i64 x.lo, .int .i64 x.hi, .slice ab nb cb] 28 (0, 0)) ∧ Ext w wr)
  case atStart => exact ⟨0, e, ⟨e.op, e.name, aw, nw, cw, e.lo, e.hi, aa, na, ca⟩, by omega, rfl, rfl, ⟨HEF.out.1, HEF.out.2, by omega⟩, HE.out.mono (sub_above HXC.out (by simp)), HBE.out, HBX.out, HXC.out⟩
  case round =>
    obtain ⟨k, a, xe, hk, hgk, rfl, hsp, hia, hba, hbx, hxr⟩ := hrel
    have HGN := Lib.hid hgk
    have HSP := Lib.hid hsp
    have HIA := Lib.hid hia
    have HBA := Lib.hid hba
    have HBX := Lib.hid hbx
    have HXR := Lib.hid hxr
    clear hgk hsp hia hba hbx hxr HXC HBE
    unfold ExV.cells at HBA
    by_cases hlt : k < 3
    · have t1 : decide ((k : Int) < 3) = true := by simp; omega
      obtain ⟨b0, b1, b2, b3, b4, b5, bf⟩ := blk6 HBA.out
      have hlb := blk_lt HBA.out
      have hsz : a.size ≤ 1000 := HSP.out.2.2
      go_wp2_with fail
      refine (sformat_calls a _ _ (HIA.out.mono (mask_sub _ _)) HSP.out.1 (HO.out.ext HXR.out) (HTB.out.ext HXR.out)).mono ?_
      rintro r w1 ⟨rfl, hx1⟩
      have HX1 := Lib.hid (HXR.out.trans hx1)
      have HIA1 := Lib.hid (HIA.out.mono (mask_ext _ hx1))
      have HBA1 := Lib.hid (hx1.blk HBA.out)
      have HBX1 := Lib.hid (hx1.blk HBX.out)
      clear hx1 b0 b1 b2 b3 b4 b5 bf hlb
      obtain ⟨b0, b1, b2, b3, b4, b5, bf⟩ := blk6 HBA1.out
      have hlb := blk_lt HBA1.out
      have HRF := Lib.hid (rformat_calls a _ w1 (HIA1.out.mono (mask_sub _ _)) (by omega) HSP.out.1 HSP.out.2.1)
      generalize fmtR a = J at *
      unfold bstr at *
      go_wp2_with fail
      refine HRF.out.mono ?_
      rintro r w2 ⟨rfl, hx2⟩
      have HX2 := Lib.hid (HX1.out.trans hx2)
      have HBA2 := Lib.hid (hx2.blk HBA1.out)
      have HBX2 := Lib.hid (hx2.blk HBX1.out)
      clear hx2 b0 b1 b2 b3 b4 b5 bf hlb HRF
      have hlb := blk_lt HBA2.out
      have HLX := Lib.hid (lexpr_fineM l1 n1 q1 w2 (H1.out.ext HX2.out) g1 [w.heap.size] (by simpa using hlb))
      unfold bstr
      go_wp2_with fail
      refine HLX.out.mono ?_
      rintro r w3 ⟨c, xc, rfl, hfc, hic, hx3⟩
      have HFC := Lib.hid hfc
      have HFT := Lib.hid (okTree_fits c.size c (Nat.le_refl _) hfc.ok)
      have hsc : c.size ≤ 121 := by have := hfc.size; have b := bound4; omega
      have hba3 : w3.heap[w.heap.size]? = some (.cells xe.cells.toArray 28 (0, 0)) := hx3.blk HBA2.out
      have hP := put6_blk (t := 28) (y := xe) hba3 xc
      have hC := put6_chg w3 w.heap.size xc (N := [w.heap.size]) (by simp)
      have HX4 := Lib.hid (hC.ext (HX2.out.trans hx3) (by simp))
      have HIC4 := Lib.hid (hic.mono hC.sub)
      have HBC4 := Lib.hid hP
      have HBX4 := Lib.hid (hC.blk (hx3.blk HBX2.out) (by simp))
      unfold ExV.cells at hba3
      obtain ⟨b0, b1, b2, b3, b4, b5, bf⟩ := blk6 hba3
      have hlb3 := blk_lt hba3
      clear hfc hic hx3 hP hC hba3 HLX HX2 HBA2 HBX2 HX1 HIA1 HBA1 HBX1 HIA HBA HBX HXR HSP
      unfold put6 at HX4 HIC4 HBC4 HBX4
      unfold ExV.val exV
      unfold ExV.cells at HBC4
      go_upto_region 11 with fail
      generalize ((((((w3.setCell ⟨w.heap.size, 0, none⟩ (.int .i64 xc.op)).setCell ⟨w.heap.size, 1, none⟩ (.string xc.name)).setCell ⟨w.heap.size, 2, none⟩ (.slice xc.aw xc.nw xc.cw)).setCell ⟨w.heap.size, 3, none⟩ (.int .i64 xc.lo)).setCell ⟨w.heap.size, 4, none⟩ (.int .i64 xc.hi)).setCell ⟨w.heap.size, 5, none⟩ (.slice xc.aa xc.na xc.ca)) = W4 at *
      clear b0 b1 b2 b3 b4 b5 bf hlb3
      by_cases hk1 : k = 1
      · subst hk1
        obtain ⟨x0, x1, x2, x3, x4, x5, xf⟩ := blk6 HBX4.out
        obtain ⟨a0, a1, a2, a3, a4, a5, af⟩ := blk6 HBC4.out
        have hlx := blk_lt HBX4.out
        have hla := blk_lt HBC4.out
        go_upto_region 12 with fail
        refine wp_region_growLG (m := 5) (n := 0) [] (Gf W4 w.heap.size) Ef (Rf W4 xc.val (exV x.op x.name aw' nw' cw' x.lo x.hi ab nb cb) l2 n2 q2) (by kernel_rfl) (by kernel_rfl) (Nat.zero_le _) ?gd ⟨(Ext.refl _).drew, fun h => by simp at h⟩ (rf_keeps (by kernel_rfl)) ?_ ?_
        case gd =>
          intro i o j b hi ho hg
          have hi' : i = 0 ∨ i = 1 ∨ i = 2 ∨ i = 3 ∨ i = 4 := by omega
          rcases hi' with rfl | rfl | rfl | rfl | rfl <;> (cases ho; cases hg)
        · intro i o hi ho L vs W hiL hnc hG hd ρ hρ
          have hi' : i = 0 ∨ i = 1 ∨ i = 2 ∨ i = 3 ∨ i = 4 := by omega
          clear hi
          have o4 : ρ (.tmp 4) = .pointer (some ⟨w.heap.size, 0, none⟩) := hρ.out 4 rfl
          have o3 : ρ (.tmp 3) = .slice l2 n2 q2 := hρ.out 3 rfl
          have o5 : ρ (.tmp 5) = .pointer (some ⟨w.heap.size + 1, 0, none⟩) := hρ.out 5 rfl
          have i0 := hρ.ins 0 49 (by omega) rfl (Nat.le_of_ble_eq_true rfl)
          have i1 := hρ.ins 1 50 (by omega) rfl (Nat.le_of_ble_eq_true rfl)
          have i2 := hρ.ins 2 51 (by omega) rfl (Nat.le_of_ble_eq_true rfl)
          have i3 := hρ.ins 3 52 (by omega) rfl (Nat.le_of_ble_eq_true rfl)
          have hcs := hρ.const
          have hfn := hρ.func
          clear hρ
          have hW := hG.1
          replace x0 := hW.cell x0
          replace x1 := hW.cell x1
          replace x2 := hW.cell x2
          replace x3 := hW.cell x3
          replace x4 := hW.cell x4
          replace x5 := hW.cell x5
          replace a0 := hW.cell a0
          replace a1 := hW.cell a1
          replace a2 := hW.cell a2
          replace a3 := hW.cell a3
          replace a4 := hW.cell a4
          replace a5 := hW.cell a5
          have hzW := hW.size
          have hz4 := HX4.out.size
          have HG := Lib.hid hG
          clear hG hW af xf
          rcases hi' with rfl | rfl | rfl | rfl | rfl
          · cases ho
            unfold GivesOp
            go_simp
            exact ⟨Or.inr (Ext.refl _), gf_plain HG.out (Ext.refl _) (by omega) _, rfl⟩
          · cases ho
            unfold GivesOp
            go_simp
            exact ⟨Or.inr (Ext.refl _), gf_plain HG.out (Ext.refl _) (by omega) _, rfl⟩
          · cases ho
            have h1 : vs 1 = _ := hd ⟨1, .data⟩ (by simp) rfl
            rw [h1] at i1
            unfold GivesOp
            go_simp
            refine (new_calls l2 n2 q2 W ((H2.out.ext HX4.out).ext HG.out.1) g2).mono ?_
            rintro r W' ⟨bd, rfl, hdk, hxk, hbd⟩
            exact ⟨_, rfl, Or.inr hxk, gf_plain HG.out hxk (by omega) _, bd, W, rfl, hdk, by omega⟩
          · cases ho
            unfold GivesOp
            go_simp
            exact ⟨Or.inr (Ext.refl _), gf_plain HG.out (Ext.refl _) (by omega) _, rfl⟩
          · cases ho
            have h0 : vs 0 = _ := hd ⟨0, .data⟩ (by simp) rfl
            rw [h0] at i0
            obtain ⟨bd, wd, h2, hdk, hbd⟩ := hd ⟨2, .data⟩ (by simp) rfl
            rw [h2] at i2
            have h3 : vs 3 = _ := hd ⟨3, .data⟩ (by simp) rfl
            rw [h3] at i3
            have HDK := Lib.hid hdk
            clear hdk hd
            unfold GivesOp
            go_simp
            refine (show Calls Tryz.prog 16 #[xc.val, .pointer (some ⟨bd, 0, none⟩), ExV.val ⟨x.op, x.name, aw', nw', cw', x.lo, x.hi, ab, nb, cb⟩] W (SpoiltQ c x wd bd [w.heap.size] W) from
              spoilt_calls 1001 (by omega) c x xc ⟨x.op, x.name, aw', nw', cw', x.lo, x.hi, ab, nb, cb⟩ wd W bd [w.heap.size] (by omega) HFC.out.ok HDK.out (HIC4.out.mono (sub_over (N := [bd]) HG.out.1 (by simpa using hbd))) (HXX.out.mono (sub_above (HX4.out.trans HG.out.1) (by simp; omega))) HXF.out.1 HXF.out.2 (by simp; omega)).mono ?_
            rintro r W' ⟨b, vb, rfl, f1, f2, f3, f4, f5, f6⟩
            have hxW : Ext W4 W' := f6.ext HG.out.1 (by simpa using hbd)
            have hsp : SpB b := ⟨f1, f2, by omega⟩
            have e4 : upd vs 4 vb.val 4 = vb.val := rfl
            exact ⟨_, rfl, Or.inl rfl, ⟨hxW, fun _ => ⟨b, vb, e4, hsp, f4.mono (mask_less _ (by simp))⟩⟩, trivial⟩
        · intro L vs W hall hG _
          rw [if_neg (by decide +kernel)]
          obtain ⟨b, xb, q4, q5, q6⟩ := hG.2 (hall 4 (by omega))
          have HSB := Lib.hid q5
          have hW := hG.1
          have hba : W.heap[w.heap.size]? = some (.cells xc.cells.toArray 28 (0, 0)) := hW.blk HBC4.out
          have hP := put6_blk (t := 28) (y := xc) hba xb
          have hC := put6_chg W w.heap.size xb (N := [w.heap.size]) (by simp)
          have HX5 := Lib.hid (hC.ext (HX4.out.trans hW) (by simp))
          have HIB5 := Lib.hid (q6.mono hC.sub)
          have HBB5 := Lib.hid hP
          have HBX5 := Lib.hid (hC.blk (hW.blk HBX4.out) (by simp))
          unfold ExV.cells at hba
          obtain ⟨z0, z1, z2, z3, z4, z5, zf⟩ := blk6 hba
          have hlz := blk_lt hba
          clear hG hall hP hC q6 hW x0 x1 x2 x3 x4 x5 xf a0 a1 a2 a3 a4 a5 af hba q5 HX4 HIC4 HBC4 HBX4
          unfold ExV.val exV at q4
          unfold put6 at HX5 HIB5 HBB5 HBX5
          unfold ExV.cells at HBB5
          unfold wpOp
          simp only [acts, dstAt, List.range, List.range.loop, List.foldl_cons, List.foldl_nil, q4]
          go_simp
          refine Or.inl ?_
          generalize ((((((W.setCell ⟨w.heap.size, 0, none⟩ (.int .i64 xb.op)).setCell ⟨w.heap.size, 1, none⟩ (.string xb.name)).setCell ⟨w.heap.size, 2, none⟩ (.slice xb.aw xb.nw xb.cw)).setCell ⟨w.heap.size, 3, none⟩ (.int .i64 xb.lo)).setCell ⟨w.heap.size, 4, none⟩ (.int .i64 xb.hi)).setCell ⟨w.heap.size, 5, none⟩ (.slice xb.aa xb.na xb.ca)) = W5 at *
          clear z0 z1 z2 z3 z4 z5 zf hlz
          go_wp2_with fail
          go_roundg (3 - (1 + 1))
          case measure => have := HGN.out; omega
          case rel => exact ⟨2, b, xb, by omega, rfl, by go_num, HSB.out, HIB5.out, HBB5.out, HBX5.out, HX5.out⟩
      · have t2 : decide ((k : Int) = 1) = false := by simp; omega
        have t3 : ((k : Int) == 1) = false := by simp; omega
        go_wp2_with fail
        go_roundg (3 - (k + 1))
        case measure => have := HGN.out; omega
        case rel => exact ⟨k + 1, c, xc, by omega, rfl, by go_num, ⟨HFT.out.1, HFT.out.2, by omega⟩, HIC4.out, HBC4.out, HBX4.out, HX4.out⟩
    · have t1 : decide ((k : Int) < 3) = false := by simp; omega
      go_wp2_with fail
      refine (awake_calls _ (HO.out.ext HXR.out)).mono ?_
      rintro r w2 ⟨rfl, hx2⟩
      go_wp2_with fail
      go_ret
      exact ⟨rfl, HXR.out.trans hx2⟩
end Go.Proofs.YtaepiiediblleaaGreatDoor

namespace Go.Proofs.YtaepiiediblleaaGreatDoor
open Go.ChangeShapes Go.WideShapes Go.ChangeAt Go.RowKit

theorem exFields_are : (Tryz.prog.underlying 28).bind (fun u => match u with | .struct fs => some (fs.toList.map (fun f => (f.type, f.offset))) | _ => none) = some [(3, 0), (9, 1), (25, 2), (3, 3), (3, 4), (26, 5)] := by kernel_rfl
theorem uEx : ∃ fs : Array Field, Tryz.prog.underlying 28 = some (.struct fs) ∧ fs.toList.map (fun f => (f.type, f.offset)) = [(3, 0), (9, 1), (25, 2), (3, 3), (3, 4), (26, 5)] := by
  have h := exFields_are
  generalize Tryz.prog.underlying 28 = U at *
  match U, h with
  | some (.struct fs), h => exact ⟨fs, rfl, by simpa using h⟩
theorem cEx : Tryz.prog.cellsOf 28 = 6 := by kernel_rfl
theorem cSs : Tryz.prog.cellsOf 25 = 1 := by kernel_rfl
theorem cExs : Tryz.prog.cellsOf 26 = 1 := by kernel_rfl
theorem uSs : Tryz.prog.underlying 25 = some (.slice 9) := by kernel_rfl
theorem uExs : Tryz.prog.underlying 26 = some (.slice 28) := by kernel_rfl
theorem bStr : Tryz.prog.bytesOf 9 = 16 := by kernel_rfl
theorem list6 {α : Type} (l : List α) (h : l.length = 6) : ∃ a b c d e f, l = [a, b, c, d, e, f] := by
  rcases l with _ | ⟨a, _ | ⟨b, _ | ⟨c, _ | ⟨d, _ | ⟨e, _ | ⟨f, _ | ⟨g, r⟩⟩⟩⟩⟩⟩⟩ <;> simp at h
  exact ⟨a, b, c, d, e, f, rfl⟩
theorem spot_none {W : World} {a : Addr} {v : Value} (h : W.cell? a = some v) : a.spot = none := by
  cases hs : a.spot with
  | none => rfl
  | some x =>
    simp only [World.cell?, hs] at h
    split at h <;> simp at h
theorem add_plain (b off i : Nat) : (⟨b, off, none⟩ : Addr).add i = ⟨b, off + i, none⟩ := by
  unfold Addr.add
  split <;> simp_all
theorem fits_mk' {e : Ex} (h1 : e.name.size ≤ 1000000000000000) (h2 : ∀ x ∈ e.words, x.size ≤ 1000000000000000) (h3 : ∀ x ∈ e.args, x.fits) : e.fits := by
  cases e with
  | mk op name words lo hi args =>
    unfold Ex.fits
    refine ⟨h1, h2, ?_⟩
    simp only [Ex.args] at h3
    clear h1 h2
    induction args with
    | nil => unfold fitsAll; trivial
    | cons a r ih => unfold fitsAll; exact ⟨h3 a (by simp), ih (fun x hx => h3 x (List.mem_cons_of_mem _ hx))⟩
theorem few_mk' {e : Ex} (h2 : e.words.length ≤ 1000000000000000) (h3 : ∀ x ∈ e.args, x.few) : e.few := by
  cases e with
  | mk op name words lo hi args =>
    unfold Ex.few
    refine ⟨h2, ?_⟩
    simp only [Ex.args] at h3
    clear h2
    induction args with
    | nil => unfold fewAll; trivial
    | cons a r ih => unfold fewAll; exact ⟨h3 a (by simp), ih (fun x hx => h3 x (List.mem_cons_of_mem _ hx))⟩
theorem list_of {α : Type} {Q : Nat → α → Prop} : (n : Nat) → (∀ i, i < n → ∃ x, Q i x) → ∃ l : List α, l.length = n ∧ ∀ i (h : i < l.length), Q i l[i]
  | 0, _ => ⟨[], rfl, fun i h => by simp at h⟩
  | n + 1, h => by
    obtain ⟨l, h1, h2⟩ := list_of n (fun i hi => h i (by omega))
    obtain ⟨x, hx⟩ := h n (by omega)
    refine ⟨l ++ [x], by simp [h1], fun i hi => ?_⟩
    by_cases e : i < l.length
    · rw [List.getElem_append_left e]; exact h2 i e
    · have : i = n := by simp at hi; omega
      subst this
      rw [List.getElem_append_right (by omega)]
      simpa using hx
/-- The words of an expression that came in. -/
theorem strs_arg {H : Type} {enc : TypeId × Value → H} {W : World} {n : Nat} {c : Value} {y : DataW H × List MemPlace} (h : DataW.trod enc Tryz.prog W 0 (fun _ => true) true n 25 [c] = some y) (hw : (y.1.weights Tryz.prog 25).all (· ≤ reachBytes) = true) :
    ∃ (l : List ByteArray) (a : Option Addr) (m k : Nat), c = .slice a m k ∧ IsStrs W l a m k ∧ (∀ x ∈ l, x.size ≤ 1000000000000000) ∧ l.length ≤ 1000000000000000 := by
  have hr := reachBytes_lt
  rcases open_strings uSs uS cS h with ⟨hc, _⟩ | ⟨a, len, cap, ss, hc, _, hl, hm, hz, hx, hcell, hsz⟩
  · simp at hc
    exact ⟨[], none, 0, 0, hc, ⟨rfl, by omega, Or.inl ⟨rfl, rfl⟩, fun i hi => by simp at hi⟩, by simp, by simp⟩
  · simp at hc
    subst hc
    simp only [if_true] at hz
    subst hx
    have hw' := hw
    simp only [DataW.weights, uSs, List.all_cons, Bool.and_eq_true, decide_eq_true_eq, List.all_append, bStr] at hw'
    obtain ⟨hw1, hw2, _⟩ := hw'
    have hlen : (strs (H := H) (ss.take len)).length = len := by simp [strs]; omega
    have hdrop : (strs (H := H) (ss.drop len)).length = cap - len := by simp [strs]; omega
    refine ⟨ss.take len, some a, len, cap, rfl, ⟨by simp; omega, hl, ?_, fun i hi => ?_⟩, fun x hx => ?_, by simp; omega⟩
    · by_cases h0 : cap = 0
      · exact Or.inl ⟨h0, h0⟩
      · have h1 := hcell 0 (by omega)
        rw [show a.add 0 = a by simp [Addr.add]] at h1
        have := spot_none h1
        obtain ⟨b, off, sp⟩ := a
        simp only at this
        subst this
        exact Or.inr ⟨b, off, rfl⟩
    · have hi' : i < len := by simp at hi; omega
      have h1 := hcell 0 (by omega)
      rw [show a.add 0 = a by simp [Addr.add]] at h1
      have hsp := spot_none h1
      obtain ⟨b, off, sp⟩ := a
      simp only at hsp
      subst hsp
      have h2 := hcell i (by omega)
      rw [add_plain] at h2
      refine ⟨b, off, rfl, ?_⟩
      rw [h2]
      simp [List.getD, show i < ss.length by omega]
    · have hmem : ∀ (l : List ByteArray), (DataW.weightsAll Tryz.prog 9 (strs (H := H) l)).all (· ≤ reachBytes) = true → ∀ x ∈ l, x.size ≤ reachBytes := by
        intro l
        induction l with
        | nil => intro _ x hx; simp at hx
        | cons y r ih =>
          intro hall x hx
          simp only [strs, List.map_cons, DataW.weightsAll, List.all_append, Bool.and_eq_true] at hall
          rcases List.mem_cons.1 hx with rfl | hx
          · have := hall.1
            simp [DataW.weights] at this
            exact this
          · exact ih hall.2 x hx
      have := hmem _ hw2 x hx
      omega
theorem ex_arg {H : Type} {enc : TypeId × Value → H} {W : World} : ∀ (fuel : Nat) (cs : List Value) (x : DataW H × List MemPlace), DataW.trod enc Tryz.prog W 0 (fun _ => true) true fuel 28 cs = some x → (x.1.weights Tryz.prog 28).all (· ≤ reachBytes) = true →
    ∃ (e : Ex) (v : ExV), cs = v.cells ∧ IsEx W e v.val ∧ e.fits ∧ e.few := by
  intro fuel
  induction fuel using Nat.strongRecOn with
  | _ fuel ih =>
    intro cs x h hw
    obtain ⟨fs, uE, are⟩ := uEx
    obtain ⟨xs, n, rfl, rfl, hlen, hxl, hf⟩ := DataW.trod_struct uE h
    have e6 : fs.size = 6 := by have := congrArg List.length are; simpa using this
    rw [e6] at hxl
    rw [cEx] at hlen
    obtain ⟨c0, c1, c2, c3, c4, c5, rfl⟩ := list6 cs hlen
    obtain ⟨x0, x1, x2, x3, x4, x5, rfl⟩ := list6 xs hxl
    obtain ⟨f0, g0, t0, o0⟩ := op_field 0 _ _ (by rw [are]; rfl)
    obtain ⟨f1, g1, t1, o1⟩ := op_field 1 _ _ (by rw [are]; rfl)
    obtain ⟨f2, g2, t2, o2⟩ := op_field 2 _ _ (by rw [are]; rfl)
    obtain ⟨f3, g3, t3, o3⟩ := op_field 3 _ _ (by rw [are]; rfl)
    obtain ⟨f4, g4, t4, o4⟩ := op_field 4 _ _ (by rw [are]; rfl)
    obtain ⟨f5, g5, t5, o5⟩ := op_field 5 _ _ (by rw [are]; rfl)
    have r0 := hf 0 f0 g0
    have r1 := hf 1 f1 g1
    have r2 := hf 2 f2 g2
    have r3 := hf 3 f3 g3
    have r4 := hf 4 f4 g4
    have r5 := hf 5 f5 g5
    rw [t0, o0, cI] at r0
    rw [t1, o1, cS] at r1
    rw [t2, o2, cSs] at r2
    rw [t3, o3, cI] at r3
    rw [t4, o4, cI] at r4
    rw [t5, o5, cExs] at r5
    simp only [List.drop_zero, List.drop_succ_cons, List.take_succ_cons, List.take_zero, List.getElem?_cons_zero, List.getElem?_cons_succ] at r0 r1 r2 r3 r4 r5
    have hty : fs.toList.map (·.type) = [3, 9, 25, 3, 3, 26] := by
      have := congrArg (List.map Prod.fst) are
      rw [List.map_map] at this
      exact this
    simp only [DataW.weights, uE, hty, List.map_cons, List.map_nil, DataW.weightsEach, List.all_append, Bool.and_eq_true] at hw
    obtain ⟨_, w1, w2, _, _, w5, _⟩ := hw
    obtain ⟨op, a0, _, _⟩ := DataW.trod_int uI r0
    obtain ⟨s, a1, b1, _⟩ := DataW.trod_string uS r1
    obtain ⟨lo, a3, _, _⟩ := DataW.trod_int uI r3
    obtain ⟨hi, a4, _, _⟩ := DataW.trod_int uI r4
    simp only [List.cons.injEq, and_true] at a0 a1 a3 a4
    subst a0 a1 a3 a4
    have hr := reachBytes_lt
    have hss : s.size ≤ 1000000000000000 := by
      rw [b1] at w1
      simp [DataW.weights] at w1
      omega
    obtain ⟨words, aw, nw, cw, rfl, hws, hwz, hwl⟩ := strs_arg r2 w2
    rcases DataW.trod_slice uExs r5 with ⟨hc5, _⟩ | ⟨a, len, cap, elems, rest, k, hk, hc5, hx5, _, hl, hm, hel, hev, hsp, _⟩
    · simp only [List.cons.injEq, and_true] at hc5
      subst hc5
      refine ⟨.mk op s words lo hi [], ⟨op, s, aw, nw, cw, lo, hi, none, 0, 0⟩, rfl, IsEx.mk hws rfl (Nat.le_refl 0) (Or.inl ⟨rfl, rfl⟩) (by unfold ExsD; trivial), fits_mk' hss hwz (by simp [Ex.args]), few_mk' hwl (by simp [Ex.args])⟩
    · simp only [List.cons.injEq, and_true] at hc5
      subst hc5
      rw [hx5] at w5
      simp only [DataW.weights, uExs, List.all_cons, List.all_append, Bool.and_eq_true] at w5
      obtain ⟨_, w6, _⟩ := w5
      have hall : ∀ (l : List (DataW H × List MemPlace)), (DataW.weightsAll Tryz.prog 28 (l.map (·.1))).all (· ≤ reachBytes) = true → ∀ y ∈ l, (y.1.weights Tryz.prog 28).all (· ≤ reachBytes) = true := by
        intro l
        induction l with
        | nil => intro _ y hy; simp at hy
        | cons z r ih2 =>
          intro h1 y hy
          simp only [List.map_cons, DataW.weightsAll, List.all_append, Bool.and_eq_true] at h1
          rcases List.mem_cons.1 hy with rfl | hy
          · exact h1.1
          · exact ih2 h1.2 y hy
      have each : ∀ i, i < len → ∃ ev : Ex × ExV, (∀ j, j < 6 → W.cell? ((a.add (i * 6)).add j) = ev.2.cells[j]?) ∧ IsEx W ev.1 ev.2.val ∧ ev.1.fits ∧ ev.1.few := by
        intro i hi
        have h1 := hev i hi
        rw [List.getElem?_eq_getElem (by omega), cEx, Option.bind_eq_some_iff] at h1
        obtain ⟨cs', h2, h3⟩ := h1
        obtain ⟨e, v, h4, h5, h6, h7⟩ := ih k (by omega) cs' _ h3 (hall elems w6 _ (List.getElem_mem _))
        subst h4
        exact ⟨(e, v), fun j hj => (World.cells?_some h2).2.2 j hj, h5, h6, h7⟩
      have hok : OkAddr (some a) cap := by
        by_cases h0 : cap = 0
        · exact Or.inl ⟨h0, h0⟩
        · have hcell : ∃ v, W.cell? a = some v := by
            by_cases h1 : 0 < len
            · obtain ⟨ev, h2, _⟩ := each 0 h1
              have := h2 0 (by omega)
              rw [show (a.add (0 * 6)).add 0 = a by simp [Addr.add]] at this
              exact ⟨_, by rw [this]; rfl⟩
            · obtain ⟨h3, h4⟩ := hsp rfl
              have h5 := h4 0 (by omega)
              rw [List.getElem?_eq_getElem (by omega), cEx, Option.bind_eq_some_iff] at h5
              obtain ⟨cs', h6, _⟩ := h5
              obtain ⟨_, h8, h7⟩ := World.cells?_some h6
              have h9 := h7 0 (by omega)
              rw [show (a.add ((len + 0) * 6)).add 0 = a by simp [Addr.add, show len = 0 by omega]] at h9
              exact ⟨cs'[0]'(by omega), by rw [h9, List.getElem?_eq_getElem (by omega)]⟩
          obtain ⟨v, hv⟩ := hcell
          have := spot_none hv
          obtain ⟨b, off, sp⟩ := a
          simp only at this
          subst this
          exact Or.inr ⟨b, off, rfl⟩
      obtain ⟨l, hl1, hl2⟩ := list_of len each
      refine ⟨.mk op s words lo hi (l.map (·.1)), ⟨op, s, aw, nw, cw, lo, hi, some a, len, cap⟩, rfl, IsEx.mk hws (by simp [hl1]) hl hok ?_, fits_mk' hss hwz ?_, few_mk' hwl ?_⟩
      · cases hll : l with
        | nil => unfold ExsD; trivial
        | cons z r =>
          rw [← hll]
          have hpos : 0 < l.length := by rw [hll]; simp
          have h2 := (hl2 0 hpos).1 0 (by omega)
          rw [show (a.add (0 * 6)).add 0 = a by simp [Addr.add]] at h2
          have hsp2 := spot_none (v := (l[0].2.cells)[0]'(by simp [ExV.cells])) (by rw [h2]; exact List.getElem?_eq_getElem _)
          obtain ⟨b, off, sp⟩ := a
          simp only at hsp2
          subst hsp2
          refine ExsD.of (l.map (·.1)) off (l.map (·.2)) (by simp) fun i h3 h4 => ?_
          have hi : i < l.length := by simpa using h3
          obtain ⟨q1, q2, _⟩ := hl2 i hi
          simp only [List.getElem_map]
          refine ⟨fun j hj => ?_, q2⟩
          have := q1 j hj
          rwa [add_plain, add_plain] at this
      · intro y hy
        simp only [Ex.args, List.mem_map] at hy
        obtain ⟨z, hz, rfl⟩ := hy
        obtain ⟨i, hi, rfl⟩ := List.getElem_of_mem hz
        exact (hl2 i hi).2.2.1
      · intro y hy
        simp only [Ex.args, List.mem_map] at hy
        obtain ⟨z, hz, rfl⟩ := hy
        obtain ⟨i, hi, rfl⟩ := List.getElem_of_mem hz
        exact (hl2 i hi).2.2.2
set_option maxRecDepth 100000 in
/-- An argument of type Expr. -/
theorem expr_arg {H : Type} {enc : TypeId × Value → H} {W : World} {v : Value} {d : DataW H} {p : List MemPlace} {ts : List TypeId} {ds : List (DataW H)} {j : Nat} (h : DataW.Trod enc Tryz.prog W 0 (fun _ => true) true 28 v d p) {base : Nat} (hval : Value.okWide Tryz.prog W .any base 28 v)
    (hs : (DataW.weightsEach Tryz.prog ts ds).all (· ≤ reachBytes) = true) (ht : ts[j]? = some 28) (hd : ds[j]? = some d) : ∃ (e : Ex), IsEx W e v ∧ e.fits ∧ e.few := by
  obtain ⟨fuel, hf⟩ := h
  have hw : (d.weights Tryz.prog 28).all (· ≤ reachBytes) = true := by
    rw [List.all_eq_true]
    intro n hn
    exact List.all_eq_true.1 hs n (DataW.weights_mem_each ht hd n hn)
  obtain ⟨e, x, h1, h2, h3, h4⟩ := ex_arg fuel _ _ hf hw
  refine ⟨e, ?_, h3, h4⟩
  obtain ⟨fs, uE, _⟩ := uEx
  obtain ⟨cs, rfl, _⟩ := okWide_struct uE hval
  simp only [Value.cells] at h1
  have : (Value.agg cs) = x.val := by
    have e : cs = x.cells.toArray := by rw [← h1]
    rw [e]; rfl
  rw [this]; exact h2
end Go.Proofs.YtaepiiediblleaaGreatDoor
