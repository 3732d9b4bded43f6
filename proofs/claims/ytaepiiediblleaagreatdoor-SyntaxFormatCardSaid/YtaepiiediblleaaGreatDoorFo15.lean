/-
  Texts of the claim, joined: SJoin1.
-/
import Derived.Test.YtaepiiediblleaaGreatDoorFo13
import Derived.Test.YtaepiiediblleaaGreatDoorFo14
import Derived.Lib.SmallJoins
namespace Go.Proofs.YtaepiiediblleaaGreatDoor
open Go.RowKit

/-- The library's table of powers of ten lies where the program has it. -/
def HasTab (w : World) : Prop := Lib.TabIs Tryz.prog w "internal/strconv.uint64pow10" .u64 Lib.pow10Tab
theorem gTab : Tryz.prog.globalNamed "internal/strconv.uint64pow10" = some 2 := by kernel_rfl
theorem HasTab.ext {w w' : World} (h : HasTab w) (he : Ext w w') : HasTab w' := Go.Joins.tab_stays gTab h he (Nat.le_refl _)
theorem decDigits_digs : (f n : Nat) → n < 10 ^ f → 0 < f → Lib.decDigits n = digs f n
  | 0, n, _, h => by omega
  | f + 1, n, h, _ => by
    rw [Lib.decDigits, digs]
    by_cases hn : n < 10
    · rw [dif_pos hn, if_pos hn]
    · rw [dif_neg hn, if_neg hn]
      have h1 : n / 10 < 10 ^ f := by rw [Nat.pow_succ] at h; omega
      have h2 : 0 < f := by
        rcases Nat.eq_zero_or_pos f with rfl | hf
        · simp at h; omega
        · exact hf
      rw [decDigits_digs f (n / 10) h1 h2]
theorem itoa_decB {n : Int} (h1 : -17592186044416 ≤ n) (h2 : n ≤ 17592186044416) : Lib.itoa n = decB n := by
  rw [Lib.itoa, decB]
  have h3 : n.natAbs < 10 ^ 20 := by omega
  split
  · rw [decDigits_digs 20 _ h3 (by omega)]
  · rw [show n.toNat = n.natAbs by omega, decDigits_digs 20 _ h3 (by omega)]
theorem ext_grow (w : World) (k : Nat) (os : Array Obj) : Ext w (Go.Sort.grow (w.drewN k) os) := by
  refine Ext.trans (Ext.drewN (Ext.refl w) k) ?_
  generalize w.drewN k = W
  refine ⟨rfl, rfl, rfl, by simp [Go.Sort.grow], fun i hi => ?_⟩
  simp [Go.Sort.grow, Array.getElem?_append_left hi]
theorem itoa_calls (n : Int) (h1 : -17592186044416 ≤ n) (h2 : n ≤ 17592186044416) (w : World) (ht : HasTab w) : Calls Tryz.prog 92 #[.int .i64 n] w (GivesE (bstr (decB n)) w) := by
  refine (Tryz.strconv_Itoa n (by omega) (by omega) w ht).mono ?_
  rintro e w' ⟨rfl, k, os, rfl⟩
  exact ⟨by rw [itoa_decB h1 h2]; rfl, ext_grow w k os⟩

theorem smarkB_calls (c : Int) (w : World) : Calls Tryz.prog 94 #[.int .u8 c] w (Gives (.bool (markB c)) w) := mark_calls c w

set_option maxRecDepth 100000 in
set_option maxHeartbeats 2000000 in
theorem swritten_calls (t : Tok) (hg : goodT t) (w : World) (htab : HasTab w) : Calls Tryz.prog 62 #[tokV t] w (WrittenQ (tokB t) w) := by
  obtain ⟨hp, hg⟩ := hg
  clear hp
  obtain ⟨h1, h2, h3⟩ | ⟨h1, h2, h3, h4⟩ | ⟨h1, h4, c, h2, h3⟩ := hg
  · have HE := Lib.hid (show bstr (tokB t) = .string t.text by rw [tokB, if_neg (by omega)]; simp [bstr])
    have HW := Lib.hid h2
    have hsz : t.text.size ≤ 1000000000000000 := by simp only [wordB, Bool.and_eq_true, decide_eq_true_eq] at h2; have := h2.1.1.1.2; omega
    have HX := Lib.hid ((Ext.refl w).alloc (.cells #[.int .i64 1, .string t.text, .int .i64 0, .int .i64 t.pos] 73))
    unfold tokV
    rw [h1, h3]
    clear h1 h2 h3 htab
    go_enter Tryz.func62, Tryz.ntmps62
    go_wp2_with fail
    refine (word_calls _ _ hsz).mono ?_
    rintro r w1 ⟨rfl, rfl⟩
    rw [HW.out]
    go_wp2_with fail
    go_ret2
    exact ⟨by rw [HE.out]; rfl, HX.out⟩
  · have HE := Lib.hid (show bstr (tokB t) = bstr (decB t.num) by rw [tokB, if_pos h1])
    have HX := Lib.hid ((Ext.refl w).alloc (.cells #[.int .i64 2, .string ⟨#[]⟩, .int .i64 t.num, .int .i64 t.pos] 73))
    have HC := Lib.hid (itoa_calls t.num h3 h4 _ (htab.ext HX.out))
    have t1 : decide (t.num < -17592186044416) = false := by simp; omega
    have t2 : decide (17592186044416 < t.num) = false := by simp; omega
    unfold tokV
    rw [h1, h2]
    clear h1 h2 h3 h4 htab
    go_enter Tryz.func62, Tryz.ntmps62
    go_wp2_with fail
    refine HC.out.mono ?_
    rintro r w1 ⟨rfl, hx⟩
    have HX1 := Lib.hid (HX.out.trans hx)
    clear hx
    unfold bstr
    go_wp2_with fail
    go_ret2
    exact ⟨by rw [HE.out]; rfl, HX1.out⟩
  · have HE := Lib.hid (show bstr (tokB t) = .string ⟨#[c]⟩ by rw [tokB, if_neg (by omega), h2]; rfl)
    have HX := Lib.hid ((Ext.refl w).alloc (.cells #[.int .i64 4, .string ⟨#[c]⟩, .int .i64 0, .int .i64 t.pos] 73))
    have HM := Lib.hid h3
    unfold tokV
    rw [h1, h2, h4]
    clear h1 h2 h3 h4 htab
    go_enter Tryz.func62, Tryz.ntmps62
    go_wp2_with fail
    refine (mark_calls _ _).mono ?_
    rintro r w1 ⟨rfl, rfl⟩
    rw [show ∀ h, (((⟨#[c]⟩ : ByteArray)[0]'h).toNat : Int) = (c.toNat : Int) from fun _ => rfl, HM.out]
    go_wp2_with fail
    go_ret2
    exact ⟨by rw [HE.out]; rfl, HX.out⟩

/-- Whether there is a blank between two tokens. -/
def apartB (p t : Tok) : Bool := if (p.kind == 4 && p.text.toList == [40]) then false else (t.kind != 4 || t.text.toList == [40])
theorem toList_data (x : ByteArray) : x.toList = x.data.toList := ByteArray.toList_eq x
theorem good_open {p : Tok} (h : goodT p) : (p.kind == 4 && p.text.toList == [40]) = (tokB p == [40]) := by
  rw [Bool.eq_iff_iff]
  simp only [Bool.and_eq_true, beq_iff_eq]
  constructor
  · rintro ⟨h1, h2⟩
    rw [tokB, if_neg (by omega), ← toList_data, h2]
  · intro h1
    have h2 := good_mark h h1 (by decide)
    rw [tokB, if_neg (by omega), ← toList_data] at h1
    exact ⟨h2, h1⟩
theorem good_closes {t : Tok} (h : goodT t) : (t.kind != 4 || t.text.toList == [40]) = !closes (tokB t) := by
  have h' := h
  obtain ⟨_, ⟨h1, h2, h3⟩ | ⟨h1, h2, h3, h4⟩ | ⟨h1, h4, d, h2, h3⟩⟩ := h
  case inr.inr =>
    have e1 : tokB t = [d] := by rw [tokB, if_neg (by omega), h2]
    have e2 : t.text.toList = [d] := by rw [toList_data, h2]
    rw [e1, e2, h1]
    have hd : d = 59 ∨ d = 58 ∨ d = 44 ∨ d = 40 ∨ d = 41 := by
      have : d.toNat = 59 ∨ d.toNat = 58 ∨ d.toNat = 44 ∨ d.toNat = 40 ∨ d.toNat = 41 := by simp [markB] at h3; omega
      rcases this with h | h | h | h | h
      · exact Or.inl (toNat_inj h)
      · exact Or.inr (Or.inl (toNat_inj h))
      · exact Or.inr (Or.inr (Or.inl (toNat_inj h)))
      · exact Or.inr (Or.inr (Or.inr (Or.inl (toNat_inj h))))
      · exact Or.inr (Or.inr (Or.inr (Or.inr (toNat_inj h))))
    rcases hd with rfl | rfl | rfl | rfl | rfl <;> decide
  all_goals
    have hk : t.kind ≠ 4 := by omega
    have hc : closes (tokB t) = false := by
      cases hc : closes (tokB t)
      · rfl
      · exfalso
        simp only [closes, Bool.or_eq_true, beq_iff_eq] at hc
        rcases hc with ((hc | hc) | hc) | hc <;> exact hk (good_mark h' hc (by decide))
    rw [hc]
    simp [hk]
theorem apart_pcs {p t : Tok} (hp : goodT p) (ht : goodT t) : apartB p t = (!(tokB p == [40]) && !closes (tokB t)) := by
  rw [apartB, good_open hp, good_closes ht]
  cases (tokB p == [40]) <;> simp

set_option maxRecDepth 100000 in
set_option maxHeartbeats 1000000 in
theorem sapart_calls (p t : Tok) (w : World) : Calls Tryz.prog 63 #[tokV p, tokV t] w (GivesE (.bool (apartB p t)) w) := by
  have HX := Lib.hid (((Ext.refl w).alloc (.cells #[.int .i64 p.kind, .string p.text, .int .i64 p.num, .int .i64 p.pos] 73)).alloc (.cells #[.int .i64 t.kind, .string t.text, .int .i64 t.num, .int .i64 t.pos] 73))
  have HA := Lib.hid (show apartB p t = if (p.kind == 4 && p.text.toList == [40]) then false else (t.kind != 4 || t.text.toList == [40]) from rfl)
  generalize apartB p t = B at *
  unfold tokV
  cases h1 : (p.kind == 4) <;> cases h2 : (p.text.toList == [40]) <;> cases h3 : (t.kind != 4)
  all_goals
    have HB := Lib.hid (HA.out.trans (by rw [h1, h2, h3]))
    simp only [Bool.and_true, Bool.and_false, Bool.false_eq_true, if_false, if_true, Bool.true_or, Bool.false_or] at HB
    clear HA
    go_enter Tryz.func63, Tryz.ntmps63
    go_wp2_with fail
    go_ret
    exact givesE_bool (by rw [HB.out]) HX.out
end Go.Proofs.YtaepiiediblleaaGreatDoor
