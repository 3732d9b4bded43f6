/-
  Texts of the claim, joined: TokLaw.
-/
import Derived.Test.YtaepiiediblleaaGreatDoorTa15
import Derived.Test.YtaepiiediblleaaGreatDoorTa16
import Derived.Test.YtaepiiediblleaaGreatDoorTa19
import Derived.Deep.DeepCutAuto
import Derived.Deep.LoopGhost
namespace Go.Proofs.YtaepiiediblleaaGreatDoor
open Go.RowKit

theorem pcs_none (x : Int) (hx : x = 64 ∨ x = 35) : (l : List Pc) → (∀ t ∈ toksOf l, goodT t) → ∀ c ∈ pcsB l, (c.toNat : Int) ≠ x
  | [], _, c, h => by simp [pcsB] at h
  | .sp :: r, hg, c, h => by
    have e : pcsB (.sp :: r) = 32 :: pcsB r := rfl
    rw [e] at h
    rcases List.mem_cons.1 h with rfl | h
    · rcases hx with rfl | rfl <;> decide
    · exact pcs_none x hx r hg c h
  | .tk t :: r, hg, c, h => by
    have e : pcsB (.tk t :: r) = tokB t ++ pcsB r := rfl
    rw [e] at h
    rcases List.mem_append.1 h with h | h
    · obtain ⟨_, ⟨h1, h2, h3⟩ | ⟨h1, h2, h3, h4⟩ | ⟨h1, h4, d, h2, h3⟩⟩ := hg t (by simp [toksOf])
      · rw [tokB, if_neg (by omega)] at h
        simp only [wordB, Bool.and_eq_true, beq_iff_eq] at h2
        obtain ⟨j, hj, rfl⟩ := List.getElem_of_mem h
        have hj' : j < t.text.size := by simpa using hj
        have := spanF_all inWordB t.text t.text.size 0 j hj' (by omega) (by rw [h2.2]; exact hj')
        simp only [ByteArray.getElem_eq_getElem_data] at this
        simp only [Array.getElem_toList]
        intro h64
        rw [h64] at this
        rcases hx with rfl | rfl <;> (revert this; decide)
      · rw [tokB, if_pos h1, decB] at h
        have hd : isDig c ∨ c = 45 := by
          split at h
          · rcases List.mem_cons.1 h with h | h
            · exact Or.inr h
            · exact Or.inl (digs_all _ _ c h)
          · exact Or.inl (digs_all _ _ c h)
        rcases hd with hd | rfl
        · unfold isDig at hd; omega
        · rcases hx with rfl | rfl <;> decide
      · rw [tokB, if_neg (by omega), h2] at h
        have : c = d := by simpa using h
        subst this
        simp [markB] at h3; omega
    · exact pcs_none x hx r (fun t' ht' => hg t' (by simp [toksOf, ht'])) c h
/-- The text that is divided. -/
def lawText (a b : Ex) : List UInt8 := fmtB a ++ [32, 59, 32] ++ fmtB b
theorem lawText_no {a b : Ex} (ha : okTree a) (hb : okTree b) : ∀ i (h : i < (⟨(lawText a b).toArray⟩ : ByteArray).size), ((⟨(lawText a b).toArray⟩ : ByteArray)[i].toNat : Int) ≠ 64 ∧ ((⟨(lawText a b).toArray⟩ : ByteArray)[i].toNat : Int) ≠ 35 := by
  intro i h
  have hm : (⟨(lawText a b).toArray⟩ : ByteArray)[i] ∈ lawText a b := by
    rw [ByteArray.getElem_eq_getElem_data]
    simp
  generalize (⟨(lawText a b).toArray⟩ : ByteArray)[i] = c at *
  have good : ∀ e : Ex, okTree e → ∀ t ∈ toksOf (fmtPc e), goodT t := fun e he t ht => by
    rw [toksOf_fmtPc] at ht
    exact good_tokE e.size e (Nat.le_refl _) he t ht
  have key : ∀ x : Int, x = 64 ∨ x = 35 → (c.toNat : Int) ≠ x := fun x hx => by
    rcases List.mem_append.1 hm with hm | hm
    · rcases List.mem_append.1 hm with hm | hm
      · exact pcs_none x hx _ (good a ha) c hm
      · simp only [List.mem_cons, List.not_mem_nil, or_false] at hm
        rcases hm with rfl | rfl | rfl <;> rcases hx with rfl | rfl <;> decide
    · exact pcs_none x hx _ (good b hb) c hm
  exact ⟨key 64 (Or.inl rfl), key 35 (Or.inr rfl)⟩
theorem lawText_str (a b : Ex) : (⟨(fmtB a).toArray⟩ ++ ⟨#[32, 59, 32]⟩ ++ ⟨(fmtB b).toArray⟩ : ByteArray) = ⟨(lawText a b).toArray⟩ := by
  show ba (fmtB a) ++ ba [32, 59, 32] ++ ba (fmtB b) = ba (lawText a b)
  rw [ba_app, ba_app]; rfl
theorem exRes {w : World} {e : Ex} {v : ExV} (h : IsEx w e v.val) : IsEx w e (exV v.op v.name v.aw v.nw v.cw v.lo v.hi v.aa v.na v.ca) := h

set_option maxRecDepth 100000 in
set_option maxHeartbeats 8000000 in
theorem tokLaw_calls (toks0 : List Tok) (ta0 : Option Addr) (tn0 tc0 : Nat) (a0 : Int) (l1 : Option Addr) (n1 q1 : Nat) (l2 : Option Addr) (n2 q2 : Nat) (w : World) (ho : HasOps w) (ht : IsToks w toks0 ta0 tn0 tc0) (hsz : ∀ t ∈ toks0, t.text.size ≤ 1000000000000000) (h1 : IntsAt w l1 n1) (g1 : n1 ≤ 1000000000000000) (h2 : IntsAt w l2 n2) (g2 : n2 ≤ 1000000000000000) :
    Calls Tryz.prog 3 #[.slice ta0 tn0 tc0, .int .i64 a0, .slice l1 n1 q1, .slice l2 n2 q2] w (GivesE (.bool true) w) := by
  have HO := Lib.hid ho
  have HT := Lib.hid ht
  have HSZ := Lib.hid hsz
  have H1 := Lib.hid h1
  have H2 := Lib.hid h2
  clear ho ht hsz h1 h2
  by_cases hbig : 100 < tn0
  · have t1 : decide ((100 : Int) < (tn0 : Int)) = true := by simp; omega
    have t2 : decide (100 < tn0) = true := by simp; omega
    go_enter Tryz.func3, Tryz.ntmps3
    go_wp2_with fail
    refine (awake_calls _ HO.out).mono ?_
    rintro r w8 ⟨rfl, hx8⟩
    go_wp2_with fail
    go_ret
    exact ⟨rfl, hx8⟩
  · have t1 : decide ((100 : Int) < (tn0 : Int)) = false := by simp; omega
    have t2 : decide (100 < tn0) = false := by simp; omega
    go_enter Tryz.func3, Tryz.ntmps3
    go_wp2_with fail
    go_loopg [0, 1, 9] 2 (fun m lv av i wr => ∃ (j : Nat) (toks : List Tok) (ta : Option Addr) (tn tc : Nat) (a : Int), j ≤ 2 ∧ m = 2 - j ∧ i = .int .i64 j ∧ lv = .slice ta tn tc ∧ av = .int .i64 a ∧ tn ≤ 4000 ∧ IsToks wr toks ta tn tc ∧ (∀ t ∈ toks, t.text.size ≤ 1000000000000000) ∧ Ext w wr)
    case atStart => exact ⟨0, toks0, ta0, tn0, tc0, a0, by omega, rfl, rfl, rfl, rfl, by omega, HT.out, HSZ.out, Ext.refl _⟩
    case round =>
      obtain ⟨j, toks, ta, tn, tc, a, hj, hm, rfl, rfl, rfl, htn, ht, hsz, hx⟩ := hrel
      have HM := Lib.hid hm
      have HX := Lib.hid hx
      have HTK := Lib.hid ht
      have HSM := Lib.hid hsz
      clear hm hx ht hsz HT HSZ
      by_cases hlt : j < 2
      · have HC1 := Lib.hid (Tokens_calls toks ta tn tc a wr HTK.out (HO.out.ext HX.out) (by omega) HSM.out [] (by simp))
        have HC2 := Lib.hid (fun W (hW : Ext wr W) => tokensExpr_calls toks ta tn tc a W (HTK.out.ext hW) (by omega) HSM.out)
        clear HTK HSM
        generalize tokensF toks a = R at *
        obtain ⟨e0, r1, r2, r3⟩ := R
        go_wp2_with fail
        refine HC1.out.mono ?_
        rintro r w1 ⟨v, rfl, hix, hx1⟩
        have HIX := Lib.hid (hix.mono (mask_sub _ _))
        have HX1 := Lib.hid hx1
        clear hix hx1 HC1
        unfold ExV.val exV
        go_upto_region 7 with fail
        have hxa : Ext w1 (w1.alloc (.cells #[.int .i64 v.op, .string v.name, .slice v.aw v.nw v.cw, .int .i64 v.lo, .int .i64 v.hi, .slice v.aa v.na v.ca] 28)) := (Ext.refl w1).alloc _
        have HV2 := Lib.hid (alloc_new w1 (.cells #[.int .i64 v.op, .string v.name, .slice v.aw v.nw v.cw, .int .i64 v.lo, .int .i64 v.hi, .slice v.aa v.na v.ca] 28))
        have HI2 := Lib.hid (HIX.out.ext hxa)
        have HX2 := Lib.hid (HX1.out.trans hxa)
        clear hxa HIX HX1
        generalize w1.alloc (.cells #[.int .i64 v.op, .string v.name, .slice v.aw v.nw v.cw, .int .i64 v.lo, .int .i64 v.hi, .slice v.aa v.na v.ca] 28) = w2 at *
        go_wp2_with fail
        refine (HC2.out _ HX2.out).mono ?_
        rintro r w3 ⟨⟨u, rfl, hiu, hx3⟩, hfew, hsize⟩
        have HFEW := Lib.hid hfew
        have HSIZE := Lib.hid hsize
        have HIU := Lib.hid (hiu.mono (mask_sub _ _))
        have HX3 := Lib.hid (HX2.out.trans hx3)
        have HV3 := Lib.hid (hx3.blk HV2.out)
        have HI3 := Lib.hid (HI2.out.ext hx3)
        clear hfew hsize hiu hx3 HC2 HX2 HV2 HI2
        unfold ExV.val exV
        go_upto_region 8 with fail
        have hxa : Ext w3 (w3.alloc (.cells #[.int .i64 u.op, .string u.name, .slice u.aw u.nw u.cw, .int .i64 u.lo, .int .i64 u.hi, .slice u.aa u.na u.ca] 28)) := (Ext.refl w3).alloc _
        have HU4 := Lib.hid (alloc_new w3 (.cells #[.int .i64 u.op, .string u.name, .slice u.aw u.nw u.cw, .int .i64 u.lo, .int .i64 u.hi, .slice u.aa u.na u.ca] 28))
        have HIU4 := Lib.hid (HIU.out.ext hxa)
        have HI4 := Lib.hid (HI3.out.ext hxa)
        have HV4 := Lib.hid (hxa.blk HV3.out)
        have HX4 := Lib.hid (HX3.out.trans hxa)
        clear hxa HIU HI3 HV3 HX3
        generalize w3.alloc (.cells #[.int .i64 u.op, .string u.name, .slice u.aw u.nw u.cw, .int .i64 u.lo, .int .i64 u.hi, .slice u.aa u.na u.ca] 28) = w4 at *
        have hlv := blk_lt HV4.out
        have hlu := blk_lt HU4.out
        obtain ⟨v0, v1, v2, v3, v4, v5, vf⟩ := blk6 HV4.out
        obtain ⟨u0, u1, u2, u3, u4, u5, uf⟩ := blk6 HU4.out
        have HSAME := Lib.hid (rsame_calls 300 e0 e0 _ _ w4 HSIZE.out (by omega) HI4.out HIU4.out HFEW.out)
        unfold ExV.val exV at HSAME
        go_wp2_with fail
        refine HSAME.out.mono ?_
        rintro r w5 ⟨B, rfl, hB, hx5⟩
        obtain rfl : B = true := hB.2 (by simp)
        have HX5 := Lib.hid (HX4.out.trans hx5)
        clear hB hx5 HSAME v0 v1 v2 v3 v4 v5 vf u0 u1 u2 u3 u4 u5 uf hlv hlu HI4 HIU4 HV4 HU4 HX4
        go_wp2_with fail
        refine (lexpr_fine _ _ _ _ (H1.out.ext (HX.out.trans HX5.out)) g1).mono ?_
        rintro r w6 ⟨x, xv, rfl, hfx, hixx, hx6⟩
        have HFX := Lib.hid hfx
        have HX6 := Lib.hid (HX5.out.trans hx6)
        have HIXX := Lib.hid hixx
        clear hfx hixx hx6 HX5
        unfold ExV.val exV at *
        go_wp2_with fail
        refine (format_fine HFX.out _ _ HIXX.out).mono ?_
        rintro r w7 ⟨rfl, hx7⟩
        have HX7 := Lib.hid (HX6.out.trans hx7)
        have hlx := fmtB_len HFX.out
        clear hx7 HX6 HIXX
        unfold bstr
        go_wp2_with fail
        refine (lexpr_fine _ _ _ _ (H2.out.ext (HX.out.trans HX7.out)) g2).mono ?_
        rintro r w8 ⟨y, yv, rfl, hfy, hiyy, hx8⟩
        have HFY := Lib.hid hfy
        have HX8 := Lib.hid (HX7.out.trans hx8)
        have HIYY := Lib.hid hiyy
        clear hfy hiyy hx8 HX7
        unfold ExV.val exV at *
        go_wp2_with fail
        refine (format_fine HFY.out _ _ HIYY.out).mono ?_
        rintro r w9 ⟨rfl, hx9⟩
        have HX9 := Lib.hid (HX8.out.trans hx9)
        have hly := fmtB_len HFY.out
        clear hx9 HX8 HIYY
        unfold bstr
        have HSTR := Lib.hid (lawText_str x y)
        have HLN := Lib.hid (show (⟨(lawText x y).toArray⟩ : ByteArray).size ≤ 1000000000000000 by simp [ByteArray.size, lawText]; omega)
        have HSC := Lib.hid (fun W => rscan_calls ⟨(lawText x y).toArray⟩ W HLN.out (lawText_no HFX.out.ok HFY.out.ok))
        rw [← HSTR.out] at HSC
        generalize fmtB x = fx at *
        generalize fmtB y = fy at *
        clear HSTR HLN
        go_wp2_with fail
        refine (HSC.out _).mono ?_
        rintro r w10 ⟨l, la, ln, lc, at2, er, rfl, htl, hszl, hll, hx10⟩
        have HX10 := Lib.hid (HX9.out.trans hx10)
        have HTL := Lib.hid htl
        have HSL := Lib.hid hszl
        have hln : ln ≤ 4000 := by have := htl.1; omega
        clear htl hszl hll hx10 HX9 HSC
        go_wp2_with fail
        refine (within_calls _ _ _ (by omega) (by omega)).mono ?_
        rintro r w11 ⟨r0, rfl, hr0, hr1, rfl⟩
        go_wp2_with fail
        go_roundg (2 - (j + 1))
        case measure => have := HM.out; omega
        case rel => exact ⟨j + 1, l, la, ln, lc, _, by omega, rfl, by go_num, rfl, rfl, hln, HTL.out, HSL.out, HX.out.trans HX10.out⟩
      · go_wp2_with fail
        refine (awake_calls _ (HO.out.ext HX.out)).mono ?_
        rintro r w8 ⟨rfl, hx8⟩
        go_wp2_with fail
        go_ret
        exact ⟨rfl, HX.out.trans hx8⟩
end Go.Proofs.YtaepiiediblleaaGreatDoor
