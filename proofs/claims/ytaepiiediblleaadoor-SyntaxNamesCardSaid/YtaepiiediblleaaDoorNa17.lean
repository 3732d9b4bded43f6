/-
  Texts of the claim, joined: Awake, NamesLaw, ExArg.
-/
import Derived.Test.YtaepiiediblleaaDoorNa14
import Derived.Test.YtaepiiediblleaaDoorNa02
import Derived.Test.YtaepiiediblleaaDoorNa10
import Derived.Test.YtaepiiediblleaaDoorNa11
import Derived.Test.YtaepiiediblleaaDoorNa13
import Derived.Test.YtaepiiediblleaaDoorNa16
import Derived.Test.YtaepiiediblleaaDoorNa06
import Derived.Test.YtaepiiediblleaaDoorNa15
import Derived.Test.YtaepiiediblleaaDoorNa09
import Derived.SliceStrings
namespace Go.Proofs.YtaepiiediblleaaDoor
open Go.RowKit

def nm (c : UInt8) : Ex := .mk 3 ⟨#[c]⟩ [] 0 0 []
def awakeText : ByteArray := ⟨#[97, 32, 111, 114, 32, 98, 32, 97, 110, 100, 32, 110, 111, 116, 32, 99]⟩
def awakeToks : List Tok := [⟨1, ⟨#[97]⟩, 0, 0⟩, ⟨1, ⟨#[111, 114]⟩, 0, 2⟩, ⟨1, ⟨#[98]⟩, 0, 5⟩, ⟨1, ⟨#[97, 110, 100]⟩, 0, 7⟩, ⟨1, ⟨#[110, 111, 116]⟩, 0, 11⟩, ⟨1, ⟨#[99]⟩, 0, 15⟩]
def awakeEx : Ex := .mk 8 ⟨#[]⟩ [] 0 0 [nm 97, .mk 7 ⟨#[]⟩ [] 0 0 [nm 98, .mk 6 ⟨#[]⟩ [] 0 0 [nm 99]]]
theorem awake_scan : scanAll awakeText = (awakeToks, 0, 0) := by kernel_rfl
theorem awake_tokens : tokensF awakeToks 0 = (awakeEx, (awakeToks.length : Int), 0, 0) := by kernel_rfl
theorem awake_64 : ∀ i, i < awakeText.size → byteAt awakeText i ≠ 64 := by
  have h : (List.range 16).all (fun i => byteAt awakeText i != 64) = true := by decide +kernel
  intro i hi
  have := List.all_eq_true.1 h i (by rw [List.mem_range]; exact hi)
  simpa using this
theorem awake_parse (w : World) (ho : HasOps w) (M : List Nat) (hM : ∀ y ∈ M, y < w.heap.size) : Calls Tryd.prog 10 #[.string awakeText] w (ParseQ awakeEx 0 M w) :=
  Parse_ok awakeText awakeToks awakeEx w ho (by decide) awake_64 awake_scan (by decide) (fun t ht => by
    have h : awakeToks.all (fun t => decide (t.text.size ≤ 1000000000000000)) = true := by decide +kernel
    simpa using List.all_eq_true.1 h t ht) awake_tokens M hM

set_option maxRecDepth 100000 in
set_option maxHeartbeats 1000000 in
theorem awake_calls (w : World) (ho : HasOps w) : Calls Tryd.prog 12 #[] w (GivesE (.bool true) w) := by
  have HP := Lib.hid (awake_parse w ho [] (by simp))
  unfold awakeText at HP
  clear ho
  go_enter Tryd.func12, Tryd.ntmps12
  go_wp2_with fail
  refine HP.out.mono ?_
  rintro r w1 ⟨x, off, rfl, hx, h0, hE⟩
  obtain rfl := h0 rfl
  have hx' := hx.mono (mask_sub _ _)
  have HX := Lib.hid hx'
  obtain ⟨aw, nw, cw, aa, na, ca, e1, g1, g2, g3, g4, g5⟩ := hx'.parts
  rw [e1] at HX ⊢
  have hna : na = 2 := g2
  subst hna
  obtain ⟨b, o, ea, aw0, nw0, cw0, aa0, na0, ca0, p0, p1, p2, p3, p4, p5, p6⟩ := ExsD.at _ _ g5 0 (by decide)
  subst ea
  obtain ⟨b', o', ea, aw1, nw1, cw1, aa1, na1, ca1, q0, q1, q2, q3, q4, q5, q6⟩ := ExsD.at _ _ g5 1 (by decide)
  obtain ⟨rfl, rfl⟩ : b' = b ∧ o' = o := by simpa using ea.symm
  have hb := block_lt p1
  simp only [Nat.zero_mul, Nat.one_mul, Nat.add_zero] at p0 p1 p2 p3 p4 p5 q0 q1 q2 q3 q4 q5
  have p1' : w1.cell? ⟨b', o' + 1, none⟩ = some (.string ⟨#[97]⟩) := p1
  have q0' : w1.cell? ⟨b', o' + 6, none⟩ = some (.int .i64 7) := q0
  have HE := Lib.hid hE
  simp only at hb
  have hb2 : b' ≠ w1.heap.size := by omega
  clear hx hx' e1 g1 g2 g3 g4 g5 p0 p1 p2 p3 p4 p5 p6 q0 q1 q2 q3 q4 q5 q6 ea hE h0
  unfold exV awakeEx at *
  simp only [Ex.op, Ex.name, Ex.lo, Ex.hi] at *
  have HSZ := Lib.hid (size_calls 6 awakeEx _ _ (by decide +kernel) (by omega) (HX.out.ext ((Ext.refl w1).alloc (.cells #[.int .i64 8, .string ⟨#[]⟩, .slice aw nw cw, .int .i64 0, .int .i64 0, .slice (some ⟨b', o', none⟩) 2 ca] 26))))
  go_wp2_with fail
  refine HSZ.out.mono ?_
  rintro r w2 ⟨rfl, hx2⟩
  have hE2 := Lib.hid (HE.out.trans (((Ext.refl w1).alloc _).trans hx2))
  clear hx2
  rw [show awakeEx.size = 6 by decide +kernel]
  go_wp2_with fail
  go_ret
  exact ⟨rfl, hE2.out⟩
end Go.Proofs.YtaepiiediblleaaDoor

namespace Go.Proofs.YtaepiiediblleaaDoor
open Go.RowKit Go.Maps

theorem refNames_len (l : List ByteArray) : (refNames l).length ≤ l.length := by have := fold_len l []; simpa [refNames] using this
/-- A list of strings, as a value. -/
def IsSl (l : List ByteArray) (u : Value) (W : World) : Prop := ∃ a c, u = .slice a l.length c ∧ IsStrs W l a l.length c
def RvN (A E : Value) (la le : List ByteArray) : Nat → Value → World → Prop
  | 0, u, _ => u = A
  | 1, u, W => IsSl la u W
  | 2, u, _ => u = A
  | 3, u, W => IsSl la u W
  | 6, u, _ => u = E
  | 7, u, W => IsSl le u W
  | 8, u, _ => u = E
  | 9, u, W => IsSl le u W
  | _, u, _ => u = .bool true
def GvN (W4 : World) (_ : List Nat) (_ : Nat → Value) (W : World) : Prop := Ext W4 W
def EvN (_ : Nat) (W W' : World) : Prop := Ext W W'
theorem IsSl.ext {l : List ByteArray} {u : Value} {W W' : World} (h : IsSl l u W) (hx : Ext W W') : IsSl l u W' := by
  obtain ⟨a, c, h1, h2⟩ := h
  exact ⟨a, c, h1, h2.ext hx⟩
theorem rvN_keeps {A E : Value} {la le : List ByteArray} (i : Nat) (u : Value) (W W' : World) (hi : i < 15) (hR : RvN A E la le i u W) (hE : Ext W W') : RvN A E la le i u W' := by
  have hi' : i = 0 ∨ i = 1 ∨ i = 2 ∨ i = 3 ∨ i = 4 ∨ i = 5 ∨ i = 6 ∨ i = 7 ∨ i = 8 ∨ i = 9 ∨ i = 10 ∨ i = 11 ∨ i = 12 ∨ i = 13 ∨ i = 14 := by omega
  rcases hi' with rfl | rfl | rfl | rfl | rfl | rfl | rfl | rfl | rfl | rfl | rfl | rfl | rfl | rfl | rfl
  all_goals first | exact hR | exact IsSl.ext hR hE
def guardsN (ops : Array Oper) : Bool := ops.all fun o => match o.guard with | none => true | some (j, b) => b && [5, 12].contains j
theorem gdN {ops : Array Oper} (h : guardsN ops = true) {A E : Value} {la le : List ByteArray} : ∀ i o j b, i < 15 → ops[i]? = some o → o.guard = some (j, b) → ∀ v W, RvN A E la le j v W → v = .bool b := by
  intro i o j b _ ho hg v W hR
  have h1 := Array.all_eq_true_iff_forall_mem.1 h o (Array.mem_of_getElem? ho)
  rw [hg] at h1
  simp only [Bool.and_eq_true, List.contains_iff_mem] at h1
  obtain ⟨rfl, h2⟩ := h1
  simp only [List.mem_cons, List.not_mem_nil, or_false] at h2
  rcases h2 with rfl | rfl <;> exact hR
theorem drawsExt {w w' : World} (h : ∃ n, w' = w.drewN n) : Ext w w' := by
  obtain ⟨n, rfl⟩ := h
  exact Ext.drewN (Ext.refl w) n

set_option maxRecDepth 100000 in
set_option maxHeartbeats 4000000 in
theorem namesLaw_calls (e : Ex) (ev : Value) (l1 : Option Addr) (n1 q1 : Nat) (w : World) (ho : HasOps w) (he : IsEx w e ev) (hef : e.fits) (h1 : IntsAt w l1 n1) (g1 : n1 ≤ 1000000000000000) :
    Calls Tryd.prog 7 #[ev, .slice l1 n1 q1] w (GivesE (.bool true) w) := by
  obtain ⟨aw, nw, cw, aa, na, ca, rfl, -, -, -, -, -⟩ := he.parts
  have HO := Lib.hid ho
  have HEF := Lib.hid hef
  have H1 := Lib.hid h1
  have HE2 := Lib.hid ((Ext.refl w).alloc (.cells #[.int .i64 e.op, .string e.name, .slice aw nw cw, .int .i64 e.lo, .int .i64 e.hi, .slice aa na ca] 26))
  have HBE := Lib.hid (alloc_new w (.cells #[.int .i64 e.op, .string e.name, .slice aw nw cw, .int .i64 e.lo, .int .i64 e.hi, .slice aa na ca] 26))
  have HIE := Lib.hid (he.ext HE2.out)
  clear ho he hef h1
  unfold exV at *
  go_enter Tryd.func7, Tryd.ntmps7
  go_upto_region 1 with fail
  generalize w.alloc (.cells #[.int .i64 e.op, .string e.name, .slice aw nw cw, .int .i64 e.lo, .int .i64 e.hi, .slice aa na ca] 26) = wb at *
  obtain ⟨b0, b1, b2, b3, b4, b5, bf⟩ := blk6 HBE.out
  have hlb := blk_lt HBE.out
  have HSE := Lib.hid (small_calls e _ wb HIE.out)
  unfold exV at HSE
  cases ce : decide (refSize e ≤ 300)
  · rw [ce] at HSE
    go_wp2_with fail
    refine HSE.out.mono ?_
    rintro r w2 ⟨rfl, hx2⟩
    have HX2 := Lib.hid (HE2.out.trans hx2)
    clear hx2 b0 b1 b2 b3 b4 b5 bf hlb
    go_wp2_with fail
    refine (awake_calls _ (HO.out.ext HX2.out)).mono ?_
    rintro r w8 ⟨rfl, hx8⟩
    go_wp2_with fail
    go_ret
    exact ⟨rfl, HX2.out.trans hx8⟩
  · rw [ce] at HSE
    have hse : e.size ≤ 300 := by
      simp only [decide_eq_true_eq] at ce
      unfold refSize at ce
      omega
    clear ce
    go_wp2_with fail
    refine HSE.out.mono ?_
    rintro r w2 ⟨rfl, hx2⟩
    have HX2 := Lib.hid (HE2.out.trans hx2)
    have HBE := Lib.hid (hx2.blk HBE.out)
    have HIE := Lib.hid (HIE.out.ext hx2)
    clear hx2 b0 b1 b2 b3 b4 b5 bf hlb HSE
    go_wp2_with fail
    refine (lexpr_fine _ _ _ _ (H1.out.ext HX2.out) g1).mono ?_
    rintro r w3 ⟨a, xa, rfl, hfa, hia, hx3⟩
    have HFA := Lib.hid hfa
    have HFITA := Lib.hid (okTree_fits a.size a (Nat.le_refl _) hfa.ok)
    have hsa : a.size ≤ 121 := by have := hfa.size; have b4 := bound4; omega
    have HX3 := Lib.hid (HX2.out.trans (hx3.trans ((Ext.refl w3).alloc (.cells #[.int .i64 xa.op, .string xa.name, .slice xa.aw xa.nw xa.cw, .int .i64 xa.lo, .int .i64 xa.hi, .slice xa.aa xa.na xa.ca] 26))))
    have HIA := Lib.hid (hia.ext ((Ext.refl w3).alloc (.cells #[.int .i64 xa.op, .string xa.name, .slice xa.aw xa.nw xa.cw, .int .i64 xa.lo, .int .i64 xa.hi, .slice xa.aa xa.na xa.ca] 26)))
    have HIE := Lib.hid ((HIE.out.ext hx3).ext ((Ext.refl w3).alloc (.cells #[.int .i64 xa.op, .string xa.name, .slice xa.aw xa.nw xa.cw, .int .i64 xa.lo, .int .i64 xa.hi, .slice xa.aa xa.na xa.ca] 26)))
    have HBE := Lib.hid (((Ext.refl w3).alloc (.cells #[.int .i64 xa.op, .string xa.name, .slice xa.aw xa.nw xa.cw, .int .i64 xa.lo, .int .i64 xa.hi, .slice xa.aa xa.na xa.ca] 26)).blk (hx3.blk HBE.out))
    have HBA := Lib.hid (alloc_new w3 (.cells #[.int .i64 xa.op, .string xa.name, .slice xa.aw xa.nw xa.cw, .int .i64 xa.lo, .int .i64 xa.hi, .slice xa.aa xa.na xa.ca] 26))
    clear hfa hia hx3 HX2
    unfold ExV.val exV
    go_upto_region 4 with fail
    generalize w3.alloc (.cells #[.int .i64 xa.op, .string xa.name, .slice xa.aw xa.nw xa.cw, .int .i64 xa.lo, .int .i64 xa.hi, .slice xa.aa xa.na xa.ca] 26) = W4 at *
    have HO4 := Lib.hid (HO.out.ext HX3.out)
    refine wp_region_growLG (m := 15) (n := 27) [14] (GvN W4) EvN (RvN xa.val (exV e.op e.name aw nw cw e.lo e.hi aa na ca) (refNames (namesE a)) (refNames (namesE e))) (by kernel_rfl) (by kernel_rfl) (Nat.le_of_ble_eq_true rfl) (gdN (by kernel_rfl)) ((Ext.refl _).drew) (fun i _ _ _ _ hi _ _ _ hR hE => rvN_keeps i _ _ _ hi hR hE) ?_ ?_
    · intro i o hi ho L vs W hiL hnc hG hd ρ hρ
      have hi' : i = 0 ∨ i = 1 ∨ i = 2 ∨ i = 3 ∨ i = 4 ∨ i = 5 ∨ i = 6 ∨ i = 7 ∨ i = 8 ∨ i = 9 ∨ i = 10 ∨ i = 11 ∨ i = 12 ∨ i = 13 ∨ i = 14 := by omega
      clear hi hiL hnc
      have o2 : ρ (.tmp 2) = .pointer (some ⟨w.heap.size, 0, none⟩) := hρ.out 2 rfl
      have o5 : ρ (.tmp 5) = .pointer (some ⟨w3.heap.size, 0, none⟩) := hρ.out 5 rfl
      have hcs := hρ.const
      have hfn := hρ.func
      have hW : Ext W4 W := hG
      have HG := Lib.hid hW
      have hzW := hW.size
      clear hG
      rcases hi' with rfl | rfl | rfl | rfl | rfl | rfl | rfl | rfl | rfl | rfl | rfl | rfl | rfl | rfl | rfl
      · cases ho
        obtain ⟨c0, c1, c2, c3, c4, c5, cf⟩ := blk6 (hW.blk HBA.out)
        have hlb := blk_lt (hW.blk HBA.out)
        clear hρ hd
        unfold GivesOp
        go_simp
        exact ⟨Ext.refl W, HG.out, rfl⟩
      · cases ho
        have i0 := hρ.ins 0 12 (by omega) rfl (Nat.le_of_ble_eq_true rfl)
        have h0 : vs 0 = xa.val := hd ⟨0, .data⟩ (by simp) rfl
        rw [h0] at i0
        clear hρ hd
        unfold GivesOp
        go_simp
        refine (synNames_calls a _ W (by omega) HFITA.out.1 (HIA.out.ext HG.out)).mono ?_
        rintro r W' ⟨ra, rc, rfl, hst, hx⟩
        exact ⟨_, rfl, hx, HG.out.trans hx, ra, rc, rfl, hst⟩
      · cases ho
        obtain ⟨c0, c1, c2, c3, c4, c5, cf⟩ := blk6 (hW.blk HBA.out)
        have hlb := blk_lt (hW.blk HBA.out)
        clear hρ hd
        unfold GivesOp
        go_simp
        exact ⟨Ext.refl W, HG.out, rfl⟩
      · cases ho
        have i2 := hρ.ins 2 14 (by omega) rfl (Nat.le_of_ble_eq_true rfl)
        have h2 : vs 2 = xa.val := hd ⟨2, .data⟩ (by simp) rfl
        rw [h2] at i2
        clear hρ hd
        unfold GivesOp
        go_simp
        refine (rnames_calls a _ W (by omega) (HIA.out.ext HG.out)).mono ?_
        rintro r W' ⟨ra, rc, rfl, hst, hx⟩
        exact ⟨_, rfl, hx, HG.out.trans hx, ra, rc, rfl, hst⟩
      · cases ho
        have i1 := hρ.ins 1 13 (by omega) rfl (Nat.le_of_ble_eq_true rfl)
        have i3 := hρ.ins 3 15 (by omega) rfl (Nat.le_of_ble_eq_true rfl)
        obtain ⟨a1, c1, h1, hs1⟩ := hd ⟨1, .data⟩ (by simp) rfl
        obtain ⟨a2, c2, h3, hs3⟩ := hd ⟨3, .data⟩ (by simp) rfl
        rw [h1] at i1
        rw [h3] at i3
        have HSW := Lib.hid (sameWords_calls _ _ a1 a2 _ c1 _ c2 W hs1 hs3 (by have := refNames_len (namesE a); have := namesE_len a; omega))
        clear hρ hd hs1 hs3
        unfold GivesOp
        go_simp
        refine HSW.out.mono ?_
        rintro r W' ⟨rfl, hx⟩
        exact ⟨_, rfl, drawsExt hx, HG.out.trans (drawsExt hx), by simp [RvN]⟩
      · cases ho
        have i4 := hρ.ins 4 16 (by omega) rfl (Nat.le_of_ble_eq_true rfl)
        have h4 : vs 4 = .bool true := hd ⟨4, .data⟩ (by simp) rfl
        rw [h4] at i4
        clear hρ hd
        unfold GivesOp
        go_simp
        exact ⟨Ext.refl W, HG.out, rfl⟩
      · cases ho
        obtain ⟨c0, c1, c2, c3, c4, c5, cf⟩ := blk6 (hW.blk HBE.out)
        have hlb := blk_lt (hW.blk HBE.out)
        clear hρ hd
        unfold GivesOp
        go_simp
        exact ⟨Ext.refl W, HG.out, rfl⟩
      · cases ho
        have i6 := hρ.ins 6 18 (by omega) rfl (Nat.le_of_ble_eq_true rfl)
        have h6 : vs 6 = (exV e.op e.name aw nw cw e.lo e.hi aa na ca) := hd ⟨6, .data⟩ (by simp) rfl
        rw [h6] at i6
        clear hρ hd
        unfold GivesOp
        go_simp
        refine (synNames_calls e _ W (by omega) HEF.out (HIE.out.ext HG.out)).mono ?_
        rintro r W' ⟨ra, rc, rfl, hst, hx⟩
        exact ⟨_, rfl, hx, HG.out.trans hx, ra, rc, rfl, hst⟩
      · cases ho
        obtain ⟨c0, c1, c2, c3, c4, c5, cf⟩ := blk6 (hW.blk HBE.out)
        have hlb := blk_lt (hW.blk HBE.out)
        clear hρ hd
        unfold GivesOp
        go_simp
        exact ⟨Ext.refl W, HG.out, rfl⟩
      · cases ho
        have i8 := hρ.ins 8 20 (by omega) rfl (Nat.le_of_ble_eq_true rfl)
        have h8 : vs 8 = (exV e.op e.name aw nw cw e.lo e.hi aa na ca) := hd ⟨8, .data⟩ (by simp) rfl
        rw [h8] at i8
        clear hρ hd
        unfold GivesOp
        go_simp
        refine (rnames_calls e _ W (by omega) (HIE.out.ext HG.out)).mono ?_
        rintro r W' ⟨ra, rc, rfl, hst, hx⟩
        exact ⟨_, rfl, hx, HG.out.trans hx, ra, rc, rfl, hst⟩
      · cases ho
        have i7 := hρ.ins 7 19 (by omega) rfl (Nat.le_of_ble_eq_true rfl)
        have i9 := hρ.ins 9 21 (by omega) rfl (Nat.le_of_ble_eq_true rfl)
        obtain ⟨a1, c1, h7, hs7⟩ := hd ⟨7, .data⟩ (by simp) rfl
        obtain ⟨a2, c2, h9, hs9⟩ := hd ⟨9, .data⟩ (by simp) rfl
        rw [h7] at i7
        rw [h9] at i9
        have HSW := Lib.hid (sameWords_calls _ _ a1 a2 _ c1 _ c2 W hs7 hs9 (by have := refNames_len (namesE e); have := namesE_len e; omega))
        clear hρ hd hs7 hs9
        unfold GivesOp
        go_simp
        refine HSW.out.mono ?_
        rintro r W' ⟨rfl, hx⟩
        exact ⟨_, rfl, drawsExt hx, HG.out.trans (drawsExt hx), by simp [RvN]⟩
      · cases ho
        have i5 := hρ.ins 5 17 (by omega) rfl (Nat.le_of_ble_eq_true rfl)
        have h5 : vs 5 = .bool true := hd ⟨5, .data⟩ (by simp) rfl
        rw [h5] at i5
        have i10 := hρ.ins 10 22 (by omega) rfl (Nat.le_of_ble_eq_true rfl)
        have h10 : vs 10 = .bool true := hd ⟨10, .data⟩ (by simp) rfl
        rw [h10] at i10
        clear hρ hd
        unfold GivesOp
        go_simp
        exact ⟨Ext.refl W, HG.out, rfl⟩
      · cases ho
        have i11 := hρ.ins 11 23 (by omega) rfl (Nat.le_of_ble_eq_true rfl)
        have h11 : vs 11 = .bool true := hd ⟨11, .data⟩ (by simp) rfl
        rw [h11] at i11
        clear hρ hd
        unfold GivesOp
        go_simp
        exact ⟨Ext.refl W, HG.out, rfl⟩
      · cases ho
        clear hρ hd
        unfold GivesOp
        go_simp
        refine (awake_calls W (HO4.out.ext HG.out)).mono ?_
        rintro r W' ⟨rfl, hx⟩
        exact ⟨_, rfl, hx, HG.out.trans hx, rfl⟩
      · cases ho
        have i12 := hρ.ins 12 24 (by omega) rfl (Nat.le_of_ble_eq_true rfl)
        have h12 : vs 12 = .bool true := hd ⟨12, .data⟩ (by simp) rfl
        rw [h12] at i12
        have i13 := hρ.ins 13 25 (by omega) rfl (Nat.le_of_ble_eq_true rfl)
        have h13 : vs 13 = .bool true := hd ⟨13, .data⟩ (by simp) rfl
        rw [h13] at i13
        clear hρ hd
        unfold GivesOp
        go_simp
        exact ⟨Ext.refl W, HG.out, rfl⟩
    · intro L vs W _ hG hR
      rw [if_neg (by decide +kernel)]
      have h14 : vs 14 = .bool true := hR 14 (by simp) (by omega)
      have HG2 := Lib.hid (show Ext W4 W from hG)
      clear hG hR
      unfold wpOp
      simp only [acts, dstAt, List.range, List.range.loop, List.foldl_cons, List.foldl_nil, h14]
      go_simp
      refine Or.inl ?_
      go_wp2_with fail
      go_ret
      exact ⟨rfl, HX3.out.trans HG2.out⟩
end Go.Proofs.YtaepiiediblleaaDoor

namespace Go.Proofs.YtaepiiediblleaaDoor
open Go.ChangeShapes Go.WideShapes Go.ChangeAt Go.RowKit

theorem exFields_are : (Tryd.prog.underlying 26).bind (fun u => match u with | .struct fs => some (fs.toList.map (fun f => (f.type, f.offset))) | _ => none) = some [(3, 0), (9, 1), (23, 2), (3, 3), (3, 4), (24, 5)] := by kernel_rfl
theorem uEx : ∃ fs : Array Field, Tryd.prog.underlying 26 = some (.struct fs) ∧ fs.toList.map (fun f => (f.type, f.offset)) = [(3, 0), (9, 1), (23, 2), (3, 3), (3, 4), (24, 5)] := by
  have h := exFields_are
  generalize Tryd.prog.underlying 26 = U at *
  match U, h with
  | some (.struct fs), h => exact ⟨fs, rfl, by simpa using h⟩
theorem cEx : Tryd.prog.cellsOf 26 = 6 := by kernel_rfl
theorem cSs : Tryd.prog.cellsOf 23 = 1 := by kernel_rfl
theorem cExs : Tryd.prog.cellsOf 24 = 1 := by kernel_rfl
theorem uSs : Tryd.prog.underlying 23 = some (.slice 9) := by kernel_rfl
theorem uExs : Tryd.prog.underlying 24 = some (.slice 26) := by kernel_rfl
theorem bStr : Tryd.prog.bytesOf 9 = 16 := by kernel_rfl
theorem list6 {α : Type} (l : List α) (h : l.length = 6) : ∃ a b c d e f, l = [a, b, c, d, e, f] := by
  rcases l with _ | ⟨a, _ | ⟨b, _ | ⟨c, _ | ⟨d, _ | ⟨e, _ | ⟨f, _ | ⟨g, r⟩⟩⟩⟩⟩⟩⟩ <;> simp at h
  exact ⟨a, b, c, d, e, f, rfl⟩
theorem spot_none {W : World} {a : Addr} {v : Value} (h : W.cell? a = some v) : a.spot = none := by
  cases hs : a.spot with
  | none => rfl
  | some x =>
    simp only [World.cell?, hs] at h
    split at h <;> simp at h
theorem add_plain (b off i : Nat) : (⟨b, off, none⟩ : Addr).add i = ⟨b, off + i, none⟩ := by
  unfold Addr.add
  split <;> simp_all
theorem fits_mk' {e : Ex} (h1 : e.name.size ≤ 1000000000000000) (h2 : ∀ x ∈ e.words, x.size ≤ 1000000000000000) (h3 : ∀ x ∈ e.args, x.fits) : e.fits := by
  cases e with
  | mk op name words lo hi args =>
    unfold Ex.fits
    refine ⟨h1, h2, ?_⟩
    simp only [Ex.args] at h3
    clear h1 h2
    induction args with
    | nil => unfold fitsAll; trivial
    | cons a r ih => unfold fitsAll; exact ⟨h3 a (by simp), ih (fun x hx => h3 x (List.mem_cons_of_mem _ hx))⟩
theorem few_mk' {e : Ex} (h2 : e.words.length ≤ 1000000000000000) (h3 : ∀ x ∈ e.args, x.few) : e.few := by
  cases e with
  | mk op name words lo hi args =>
    unfold Ex.few
    refine ⟨h2, ?_⟩
    simp only [Ex.args] at h3
    clear h2
    induction args with
    | nil => unfold fewAll; trivial
    | cons a r ih => unfold fewAll; exact ⟨h3 a (by simp), ih (fun x hx => h3 x (List.mem_cons_of_mem _ hx))⟩
theorem list_of {α : Type} {Q : Nat → α → Prop} : (n : Nat) → (∀ i, i < n → ∃ x, Q i x) → ∃ l : List α, l.length = n ∧ ∀ i (h : i < l.length), Q i l[i]
  | 0, _ => ⟨[], rfl, fun i h => by simp at h⟩
  | n + 1, h => by
    obtain ⟨l, h1, h2⟩ := list_of n (fun i hi => h i (by omega))
    obtain ⟨x, hx⟩ := h n (by omega)
    refine ⟨l ++ [x], by simp [h1], fun i hi => ?_⟩
    by_cases e : i < l.length
    · rw [List.getElem_append_left e]; exact h2 i e
    · have : i = n := by simp at hi; omega
      subst this
      rw [List.getElem_append_right (by omega)]
      simpa using hx
/-- The words of an expression that came in. -/
theorem strs_arg {H : Type} {enc : TypeId × Value → H} {W : World} {n : Nat} {c : Value} {y : DataW H × List MemPlace} (h : DataW.trod enc Tryd.prog W 0 (fun _ => true) true n 23 [c] = some y) (hw : (y.1.weights Tryd.prog 23).all (· ≤ reachBytes) = true) :
    ∃ (l : List ByteArray) (a : Option Addr) (m k : Nat), c = .slice a m k ∧ IsStrs W l a m k ∧ (∀ x ∈ l, x.size ≤ 1000000000000000) ∧ l.length ≤ 1000000000000000 := by
  have hr := reachBytes_lt
  rcases open_strings uSs uS cS h with ⟨hc, _⟩ | ⟨a, len, cap, ss, hc, _, hl, hm, hz, hx, hcell, hsz⟩
  · simp at hc
    exact ⟨[], none, 0, 0, hc, ⟨rfl, by omega, Or.inl ⟨rfl, rfl⟩, fun i hi => by simp at hi⟩, by simp, by simp⟩
  · simp at hc
    subst hc
    simp only [if_true] at hz
    subst hx
    have hw' := hw
    simp only [DataW.weights, uSs, List.all_cons, Bool.and_eq_true, decide_eq_true_eq, List.all_append, bStr] at hw'
    obtain ⟨hw1, hw2, _⟩ := hw'
    have hlen : (strs (H := H) (ss.take len)).length = len := by simp [strs]; omega
    have hdrop : (strs (H := H) (ss.drop len)).length = cap - len := by simp [strs]; omega
    refine ⟨ss.take len, some a, len, cap, rfl, ⟨by simp; omega, hl, ?_, fun i hi => ?_⟩, fun x hx => ?_, by simp; omega⟩
    · by_cases h0 : cap = 0
      · exact Or.inl ⟨h0, h0⟩
      · have h1 := hcell 0 (by omega)
        rw [show a.add 0 = a by simp [Addr.add]] at h1
        have := spot_none h1
        obtain ⟨b, off, sp⟩ := a
        simp only at this
        subst this
        exact Or.inr ⟨b, off, rfl⟩
    · have hi' : i < len := by simp at hi; omega
      have h1 := hcell 0 (by omega)
      rw [show a.add 0 = a by simp [Addr.add]] at h1
      have hsp := spot_none h1
      obtain ⟨b, off, sp⟩ := a
      simp only at hsp
      subst hsp
      have h2 := hcell i (by omega)
      rw [add_plain] at h2
      refine ⟨b, off, rfl, ?_⟩
      rw [h2]
      simp [List.getD, show i < ss.length by omega]
    · have hmem : ∀ (l : List ByteArray), (DataW.weightsAll Tryd.prog 9 (strs (H := H) l)).all (· ≤ reachBytes) = true → ∀ x ∈ l, x.size ≤ reachBytes := by
        intro l
        induction l with
        | nil => intro _ x hx; simp at hx
        | cons y r ih =>
          intro hall x hx
          simp only [strs, List.map_cons, DataW.weightsAll, List.all_append, Bool.and_eq_true] at hall
          rcases List.mem_cons.1 hx with rfl | hx
          · have := hall.1
            simp [DataW.weights] at this
            exact this
          · exact ih hall.2 x hx
      have := hmem _ hw2 x hx
      omega
theorem ex_arg {H : Type} {enc : TypeId × Value → H} {W : World} : ∀ (fuel : Nat) (cs : List Value) (x : DataW H × List MemPlace), DataW.trod enc Tryd.prog W 0 (fun _ => true) true fuel 26 cs = some x → (x.1.weights Tryd.prog 26).all (· ≤ reachBytes) = true →
    ∃ (e : Ex) (v : ExV), cs = v.cells ∧ IsEx W e v.val ∧ e.fits ∧ e.few := by
  intro fuel
  induction fuel using Nat.strongRecOn with
  | _ fuel ih =>
    intro cs x h hw
    obtain ⟨fs, uE, are⟩ := uEx
    obtain ⟨xs, n, rfl, rfl, hlen, hxl, hf⟩ := DataW.trod_struct uE h
    have e6 : fs.size = 6 := by have := congrArg List.length are; simpa using this
    rw [e6] at hxl
    rw [cEx] at hlen
    obtain ⟨c0, c1, c2, c3, c4, c5, rfl⟩ := list6 cs hlen
    obtain ⟨x0, x1, x2, x3, x4, x5, rfl⟩ := list6 xs hxl
    obtain ⟨f0, g0, t0, o0⟩ := op_field 0 _ _ (by rw [are]; rfl)
    obtain ⟨f1, g1, t1, o1⟩ := op_field 1 _ _ (by rw [are]; rfl)
    obtain ⟨f2, g2, t2, o2⟩ := op_field 2 _ _ (by rw [are]; rfl)
    obtain ⟨f3, g3, t3, o3⟩ := op_field 3 _ _ (by rw [are]; rfl)
    obtain ⟨f4, g4, t4, o4⟩ := op_field 4 _ _ (by rw [are]; rfl)
    obtain ⟨f5, g5, t5, o5⟩ := op_field 5 _ _ (by rw [are]; rfl)
    have r0 := hf 0 f0 g0
    have r1 := hf 1 f1 g1
    have r2 := hf 2 f2 g2
    have r3 := hf 3 f3 g3
    have r4 := hf 4 f4 g4
    have r5 := hf 5 f5 g5
    rw [t0, o0, cI] at r0
    rw [t1, o1, cS] at r1
    rw [t2, o2, cSs] at r2
    rw [t3, o3, cI] at r3
    rw [t4, o4, cI] at r4
    rw [t5, o5, cExs] at r5
    simp only [List.drop_zero, List.drop_succ_cons, List.take_succ_cons, List.take_zero, List.getElem?_cons_zero, List.getElem?_cons_succ] at r0 r1 r2 r3 r4 r5
    have hty : fs.toList.map (·.type) = [3, 9, 23, 3, 3, 24] := by
      have := congrArg (List.map Prod.fst) are
      rw [List.map_map] at this
      exact this
    simp only [DataW.weights, uE, hty, List.map_cons, List.map_nil, DataW.weightsEach, List.all_append, Bool.and_eq_true] at hw
    obtain ⟨_, w1, w2, _, _, w5, _⟩ := hw
    obtain ⟨op, a0, _, _⟩ := DataW.trod_int uI r0
    obtain ⟨s, a1, b1, _⟩ := DataW.trod_string uS r1
    obtain ⟨lo, a3, _, _⟩ := DataW.trod_int uI r3
    obtain ⟨hi, a4, _, _⟩ := DataW.trod_int uI r4
    simp only [List.cons.injEq, and_true] at a0 a1 a3 a4
    subst a0 a1 a3 a4
    have hr := reachBytes_lt
    have hss : s.size ≤ 1000000000000000 := by
      rw [b1] at w1
      simp [DataW.weights] at w1
      omega
    obtain ⟨words, aw, nw, cw, rfl, hws, hwz, hwl⟩ := strs_arg r2 w2
    rcases DataW.trod_slice uExs r5 with ⟨hc5, _⟩ | ⟨a, len, cap, elems, rest, k, hk, hc5, hx5, _, hl, hm, hel, hev, hsp, _⟩
    · simp only [List.cons.injEq, and_true] at hc5
      subst hc5
      refine ⟨.mk op s words lo hi [], ⟨op, s, aw, nw, cw, lo, hi, none, 0, 0⟩, rfl, IsEx.mk hws rfl (Nat.le_refl 0) (Or.inl ⟨rfl, rfl⟩) (by unfold ExsD; trivial), fits_mk' hss hwz (by simp [Ex.args]), few_mk' hwl (by simp [Ex.args])⟩
    · simp only [List.cons.injEq, and_true] at hc5
      subst hc5
      rw [hx5] at w5
      simp only [DataW.weights, uExs, List.all_cons, List.all_append, Bool.and_eq_true] at w5
      obtain ⟨_, w6, _⟩ := w5
      have hall : ∀ (l : List (DataW H × List MemPlace)), (DataW.weightsAll Tryd.prog 26 (l.map (·.1))).all (· ≤ reachBytes) = true → ∀ y ∈ l, (y.1.weights Tryd.prog 26).all (· ≤ reachBytes) = true := by
        intro l
        induction l with
        | nil => intro _ y hy; simp at hy
        | cons z r ih2 =>
          intro h1 y hy
          simp only [List.map_cons, DataW.weightsAll, List.all_append, Bool.and_eq_true] at h1
          rcases List.mem_cons.1 hy with rfl | hy
          · exact h1.1
          · exact ih2 h1.2 y hy
      have each : ∀ i, i < len → ∃ ev : Ex × ExV, (∀ j, j < 6 → W.cell? ((a.add (i * 6)).add j) = ev.2.cells[j]?) ∧ IsEx W ev.1 ev.2.val ∧ ev.1.fits ∧ ev.1.few := by
        intro i hi
        have h1 := hev i hi
        rw [List.getElem?_eq_getElem (by omega), cEx, Option.bind_eq_some_iff] at h1
        obtain ⟨cs', h2, h3⟩ := h1
        obtain ⟨e, v, h4, h5, h6, h7⟩ := ih k (by omega) cs' _ h3 (hall elems w6 _ (List.getElem_mem _))
        subst h4
        exact ⟨(e, v), fun j hj => (World.cells?_some h2).2.2 j hj, h5, h6, h7⟩
      have hok : OkAddr (some a) cap := by
        by_cases h0 : cap = 0
        · exact Or.inl ⟨h0, h0⟩
        · have hcell : ∃ v, W.cell? a = some v := by
            by_cases h1 : 0 < len
            · obtain ⟨ev, h2, _⟩ := each 0 h1
              have := h2 0 (by omega)
              rw [show (a.add (0 * 6)).add 0 = a by simp [Addr.add]] at this
              exact ⟨_, by rw [this]; rfl⟩
            · obtain ⟨h3, h4⟩ := hsp rfl
              have h5 := h4 0 (by omega)
              rw [List.getElem?_eq_getElem (by omega), cEx, Option.bind_eq_some_iff] at h5
              obtain ⟨cs', h6, _⟩ := h5
              obtain ⟨_, h8, h7⟩ := World.cells?_some h6
              have h9 := h7 0 (by omega)
              rw [show (a.add ((len + 0) * 6)).add 0 = a by simp [Addr.add, show len = 0 by omega]] at h9
              exact ⟨cs'[0]'(by omega), by rw [h9, List.getElem?_eq_getElem (by omega)]⟩
          obtain ⟨v, hv⟩ := hcell
          have := spot_none hv
          obtain ⟨b, off, sp⟩ := a
          simp only at this
          subst this
          exact Or.inr ⟨b, off, rfl⟩
      obtain ⟨l, hl1, hl2⟩ := list_of len each
      refine ⟨.mk op s words lo hi (l.map (·.1)), ⟨op, s, aw, nw, cw, lo, hi, some a, len, cap⟩, rfl, IsEx.mk hws (by simp [hl1]) hl hok ?_, fits_mk' hss hwz ?_, few_mk' hwl ?_⟩
      · cases hll : l with
        | nil => unfold ExsD; trivial
        | cons z r =>
          rw [← hll]
          have hpos : 0 < l.length := by rw [hll]; simp
          have h2 := (hl2 0 hpos).1 0 (by omega)
          rw [show (a.add (0 * 6)).add 0 = a by simp [Addr.add]] at h2
          have hsp2 := spot_none (v := (l[0].2.cells)[0]'(by simp [ExV.cells])) (by rw [h2]; exact List.getElem?_eq_getElem _)
          obtain ⟨b, off, sp⟩ := a
          simp only at hsp2
          subst hsp2
          refine ExsD.of (l.map (·.1)) off (l.map (·.2)) (by simp) fun i h3 h4 => ?_
          have hi : i < l.length := by simpa using h3
          obtain ⟨q1, q2, _⟩ := hl2 i hi
          simp only [List.getElem_map]
          refine ⟨fun j hj => ?_, q2⟩
          have := q1 j hj
          rwa [add_plain, add_plain] at this
      · intro y hy
        simp only [Ex.args, List.mem_map] at hy
        obtain ⟨z, hz, rfl⟩ := hy
        obtain ⟨i, hi, rfl⟩ := List.getElem_of_mem hz
        exact (hl2 i hi).2.2.1
      · intro y hy
        simp only [Ex.args, List.mem_map] at hy
        obtain ⟨z, hz, rfl⟩ := hy
        obtain ⟨i, hi, rfl⟩ := List.getElem_of_mem hz
        exact (hl2 i hi).2.2.2
set_option maxRecDepth 100000 in
/-- An argument of type Expr. -/
theorem expr_arg {H : Type} {enc : TypeId × Value → H} {W : World} {v : Value} {d : DataW H} {p : List MemPlace} {ts : List TypeId} {ds : List (DataW H)} {j : Nat} (h : DataW.Trod enc Tryd.prog W 0 (fun _ => true) true 26 v d p) {base : Nat} (hval : Value.okWide Tryd.prog W .any base 26 v)
    (hs : (DataW.weightsEach Tryd.prog ts ds).all (· ≤ reachBytes) = true) (ht : ts[j]? = some 26) (hd : ds[j]? = some d) : ∃ (e : Ex), IsEx W e v ∧ e.fits ∧ e.few := by
  obtain ⟨fuel, hf⟩ := h
  have hw : (d.weights Tryd.prog 26).all (· ≤ reachBytes) = true := by
    rw [List.all_eq_true]
    intro n hn
    exact List.all_eq_true.1 hs n (DataW.weights_mem_each ht hd n hn)
  obtain ⟨e, x, h1, h2, h3, h4⟩ := ex_arg fuel _ _ hf hw
  refine ⟨e, ?_, h3, h4⟩
  obtain ⟨fs, uE, _⟩ := uEx
  obtain ⟨cs, rfl, _⟩ := okWide_struct uE hval
  simp only [Value.cells] at h1
  have : (Value.agg cs) = x.val := by
    have e : cs = x.cells.toArray := by rw [← h1]
    rw [e]; rfl
  rw [this]; exact h2
end Go.Proofs.YtaepiiediblleaaDoor
